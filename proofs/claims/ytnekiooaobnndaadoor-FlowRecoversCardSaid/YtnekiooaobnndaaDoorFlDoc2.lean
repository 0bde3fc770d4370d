/-
 The document's funcOf: of each byte its function where an instruction begins; -1 for all others; or that the code can't be swept.
-/
import Derived.Test.YtnekiooaobnndaaDoorFlDoc1
import Derived.Test.YtnekiooaobnndaaDoorImgFuncs
import Derived.Test.YtnekiooaobnndaaDoorRegHead
import Derived.Test.YtnekiooaobnndaaDoorFlRec5
import Derived.Deep.QuietTactic
import Derived.BigQuiet
import Derived.Deep.RegionLaw
import Derived.Deep.RegionHeld3
import Derived.Deep.CutBlock
import Derived.Deep.DeepCutAuto
set_option linter.unusedVariables false
set_option linter.unusedSimpArgs false
namespace Go.Proofs.YtnekiooaobnndaaDoor
open Go.RowKit BH
set_option maxHeartbeats 1000000000
set_option maxRecDepth 100000
theorem nthExt {α : Type} [Inhabited α] {l r : List α} (h : l.length = r.length) (hn : ∀ j, j < l.length → nth l j = nth r j) : l = r := by
 apply List.ext_getElem h
 intro j h1 h2
 have := hn j h1
 rw [nth_eq _ _ h1, nth_eq _ _ h2] at this
 exact this
/-- owners as a row of numbers; -1: none -/
def ownArr (om : Int → Option Int) (n : Nat) : List Int := (List.range n).map fun x : Nat => (om x).getD (-1)
theorem ownArr_len (om : Int → Option Int) (n : Nat) : (ownArr om n).length = n := by simp [ownArr]
theorem ownArr_at (om : Int → Option Int) {n j : Nat} (h : j < n) : nth (ownArr om n) j = (om j).getD (-1) := nthRange (fun x : Nat => (om x).getD (-1)) h
theorem ownArr_put (om : Int → Option Int) {n a : Nat} (h : a < n) (v : Int) : (ownArr om n).set a v = ownArr (putI om a v) n := by
 refine nthExt (by rw [List.length_set, ownArr_len, ownArr_len]) (fun j hj => ?_)
 rw [List.length_set, ownArr_len] at hj
 have e : nth ((ownArr om n).set a v) j = if a = j then v else nth (ownArr om n) j := by
  rw [nth_eq _ _ (by rw [List.length_set, ownArr_len]; exact hj), List.getElem_set]
  split
  ·rfl
  ·rw [nth_eq _ _ (by rw [ownArr_len]; exact hj)]
 rw [e, ownArr_at _ hj, ownArr_at _ hj]
 unfold putI
 by_cases q : a = j
 ·subst q; rw [if_pos rfl, if_pos rfl]; rfl
 ·rw [if_neg q, if_neg (by omega)]
theorem own1_snoc (v : Int) (l : List Sp) (s : Sp) (om : Int → Option Int) : own1 v (l ++ [s]) om = putI (own1 v l om) s.A v := by unfold own1; rw [List.foldl_append]; rfl
def insC (x : Ins) : Array Value := #[.int .i64 x.K, .int .i64 x.D, .int .i64 x.A, .int .i64 x.B, .int .i64 x.N, .bool x.Lg]
/-- what funcOf answers -/
def FoAns (m : Img) (w : World) (e : Ending) (w' : World) : Prop :=
 (anyN (fun i => badF m.Text (nth m.Funcs i)) m.Funcs.length = true → e = .returned (.tuple #[.slice none 0 0, .bool false])) ∧
 (anyN (fun i => badF m.Text (nth m.Funcs i)) m.Funcs.length = false → ∃ g, e = .returned (.tuple #[.slice (some ⟨g, 0, none⟩) (m.Text.length + 1) (m.Text.length + 1), .bool true]) ∧ Own w' w.heap.size 3 1 (fun x => [iV x]) (.slice (some ⟨g, 0, none⟩) (m.Text.length + 1) (m.Text.length + 1)) (ownArr (ownS (allS m) m.Funcs.length) (m.Text.length + 1))) ∧ Keeps w w'
theorem FoAns.bad {m : Img} {w w' : World} {i : Nat} (hi : i < m.Funcs.length) (hb : badF m.Text (nth m.Funcs i) = true) (hk : Keeps w w') : FoAns m w (.returned (.tuple #[.slice none 0 0, .bool false])) w' :=
 ⟨fun _ => rfl, fun q => (by rw [anyN_yes (p := fun i => badF m.Text (nth m.Funcs i)) hi hb] at q; cases q), hk⟩
theorem funcOf_any {v : Value} {m : Img} {w : World} (hm : ImgAt w v m) (hg : ImgGood m) (h2 : m.Text.length ≤ 2000) : Calls Tryd.prog 20 #[v] w (FoAns m w) := by
 obtain ⟨v0, v1, v2, v3, v4, rfl, i0, i1, i2, i3, i4⟩ := hm
 obtain ⟨x0, x0c, rfl⟩ := Arr.form i0
 obtain ⟨x1, x1c, rfl⟩ := Arr.form i1
 obtain ⟨TL, hTL⟩ : ∃ n, n = m.Text.length := ⟨_, rfl⟩
 obtain ⟨NF, hNF⟩ : ∃ n, n = m.Funcs.length := ⟨_, rfl⟩
 obtain ⟨N1, hN1⟩ : ∃ n, n = m.Text.length + 1 := ⟨_, rfl⟩
 have HIA := Lib.hid (fun (W' : World) (x : Int) (hk : Keeps w W') => instrAt_any _ m.Text x W' (Arr.keep i0 hk : Bytes W' _ m.Text) (by omega))
 have HI1 := Lib.hid i1
 have HG := Lib.hid hg
 have hNF40 : NF ≤ 40 := by rw [hNF]; exact hg.funcs
 rw [← hTL] at HIA h2
 rw [← hTL, ← hNF]
 have HTL := Lib.hid hTL
 have HNF := Lib.hid hNF
 have HN1 := Lib.hid hN1
 have hN1b : N1 ≤ 2001 := by omega
 have hN1t : TL < N1 := by omega
 clear i0 i1 i2 i3 i4 hg hTL hNF hN1
 have HW1 : IntKind.i64.wrap ((TL : Int) + 1) = (N1 : Int) := by rw [IntKind.wrap_i64]; have := HTL.out; have := HN1.out; omega
 obtain ⟨W, hW, hB1, hkW⟩ : ∃ W, W = w.alloc (.cells #[.slice x0 TL x0c, .slice x1 NF x1c, v2, v3, v4, .int .i64 m.Entry] 28) ∧ Blk W w.heap.size (.cells #[.slice x0 TL x0c, .slice x1 NF x1c, v2, v3, v4, .int .i64 m.Entry] 28) ∧ Keeps w W := ⟨_, rfl, Blk.top _ _, (Keeps.refl _).alloc _⟩
 have HW := Lib.hid hW
 have HK := Lib.hid hkW
 have HB1 := Lib.hid hB1
 have HSW := Lib.hid (show W.heap.size = w.heap.size + 1 by rw [hW, sz_alloc])
 have n0 := hB1.cell (j := 0) rfl
 clear hW hB1 hkW
 obtain ⟨ti, hti, htz, hts, htb⟩ := infoParts info_int
 go_enter Tryd.func20, Tryd.ntmps20
 go_upto_region 1 with fail
 rw [← HW.out]
 clear HW
 go_upto_region 2 with (at_make; refine wpList_make_full _ rfl _ _ 25 rfl W.heap.size 3 ti (.int .i64 0) 1 Tryd.underlying25 hti htz hts .i64 .i64 _ _ N1 rfl rfl rfl rfl (by rw [htb]; omega) (by unfold maxLen; omega) (Nat.le_refl _) ?_; intro w2 hown2 hgr2)
 have k12 : Keeps W w2 := below_grown hgr2 (Nat.le_refl _) fun q e => by cases e
 obtain ⟨c2, ht2, ho2⟩ := OwnC.fresh (fun _ => 0) 1 k12 (ownMadeG iV (0 : Int) rfl hown2) (Nat.le_refl _)
 obtain ⟨gA, hgA⟩ : ∃ g, g = W.heap.size := ⟨_, rfl⟩
 rw [← hgA] at ho2 ⊢
 have HT2 := Lib.hid (ht2 (fun z => z = 1 ∨ z = 2))
 have HO2 := Lib.hid ho2
 have hGA := Lib.hid hgA
 clear k12 ht2 ho2 hown2 hgr2 hgA n0 hti htz hts htb HW1
 go_wp2_with fail
 go_loopw [5] (fun s5 wr => ∃ (k : Nat) (l : List Int) (c1 : Nat → Nat), k ≤ N1 ∧ s5 = .int .i64 k ∧ Hid (Turn (fun z => z = 1 ∨ z = 2) (fun _ => 0) W c1 wr) ∧ Hid (OwnI 1 c1 wr gA (.slice (some ⟨gA, 0, none⟩) N1 N1) l) ∧ Hid (l.length = N1 ∧ ∀ j, j < N1 → nth l j = if j < k then -1 else 0)) (fun s5 _ => N1 - (intOf s5).toNat)
 case atStart => exact ⟨0, _, c2, Nat.zero_le _, rfl, HT2, HO2, Lib.hid ⟨List.length_replicate, fun j hj => by rw [nth_eq _ _ (by rw [List.length_replicate]; exact hj), List.getElem_replicate, if_neg (Nat.not_lt_zero _)]⟩⟩
 case round =>
  obtain ⟨k, l, c1, hk, rfl, HTa, HOa, HLa⟩ := hrel
  by_cases hlt : k < N1
  case pos =>
   have hlz : (k : Int) < (N1 : Int) := by omega
   obtain ⟨q1, q2, q3, q4, q5⟩ := ownC_cell HOa.out (j := k) (by rw [HLa.out.1]; exact hlt)
   have q1' : wr.cell? ⟨gA, k, none⟩ = some (.int .i64 (nth l k)) := q1
   have HO9 := Lib.hid (q4 (-1))
   have HT9 := Lib.hid (HTa.out.trans ((q5 (iV (-1))).mono (J := (fun z => z = 1 ∨ z = 2)) fun z h => Or.inl h))
   clear q1 q4 q5
   go_wp2_with fail
   go_roundw
   case rel => exact ⟨k + 1, l.set k (-1), c1, by omega, by go_num, HT9, HO9, Lib.hid ⟨by rw [List.length_set]; exact HLa.out.1, fun j hj => by
    rw [nth_eq _ _ (by rw [List.length_set, HLa.out.1]; exact hj), List.getElem_set]
    by_cases z : k = j
    ·rw [if_pos z, if_pos (by omega)]
    ·rw [if_neg z, ← nth_eq _ _ (by rw [HLa.out.1]; exact hj), HLa.out.2 j hj]
     by_cases z2 : j < k
     ·rw [if_pos z2, if_pos (by omega)]
     ·rw [if_neg z2, if_neg (by omega)]⟩⟩
   case measure => simp [intOf]; omega
  case neg =>
  have tl : decide ((k : Int) < (N1 : Int)) = false := decide_eq_false (by omega)
  have hlE : l = ownArr (ownS (allS m) 0) N1 := nthExt (by rw [HLa.out.1, ownArr_len]) (fun j hj => by
   rw [HLa.out.1] at hj
   rw [HLa.out.2 j hj, ownArr_at _ hj, if_pos (by omega)]
   rfl)
  have HOb : Hid (OwnI 1 c1 wr gA (.slice (some ⟨gA, 0, none⟩) N1 N1) (ownArr (ownS (allS m) 0) N1)) := Lib.hid (by rw [← hlE]; exact HOa.out)
  clear hlE HOa HLa HT2 HO2
  go_wp2_with fail
  go_loopw [6] (fun s6 wr => ∃ (i : Nat) (c1 : Nat → Nat), i ≤ NF ∧ s6 = .int .i64 i ∧ Hid (Turn (fun z => z = 1 ∨ z = 2) (fun _ => 0) W c1 wr) ∧ Hid (OwnI 1 c1 wr gA (.slice (some ⟨gA, 0, none⟩) N1 N1) (ownArr (ownS (allS m) i) N1)) ∧ Hid (∀ j, j < i → badF m.Text (nth m.Funcs j) = false)) (fun s6 _ => NF - (intOf s6).toNat)
  case atStart => exact ⟨0, c1, Nat.zero_le _, rfl, HTa, HOb, Lib.hid (fun j hj => absurd hj (Nat.not_lt_zero _))⟩
  case round =>
   clear HTa HOb
   obtain ⟨i, c1, hi, rfl, HTb, HOb, HNB⟩ := hrel
   have hkr : Keeps W wr := HTb.out.below (Nat.le_refl _) (fun _ _ => rfl) (by decide)
   have n1 := (HB1.out.keep hkr).cell (j := 1) rfl
   have nl := (HB1.out.keep hkr).lt
   by_cases hlt2 : i < NF
   case neg =>
    have tl2 : decide ((i : Int) < (NF : Int)) = false := decide_eq_false (by omega)
    have HE : Hid (anyN (fun i => badF m.Text (nth m.Funcs i)) m.Funcs.length = false) := Lib.hid (anyN_no (fun j hj => HNB.out j (by rw [← HNF.out] at hj; omega)))
    have HKR := Lib.hid hkr
    clear hkr
    go_wp2_with fail
    refine bodyPost_ret (results_tmp2 rfl _ _ _) rfl ?_
    refine ⟨fun q => (by rw [HE.out] at q; cases q), fun _ => ⟨gA, by rw [← HN1.out]; rfl, ?_⟩, HK.out.trans HKR.out⟩
    rw [← HN1.out]
    have z := HOb.out.1
    rw [show i = m.Funcs.length by rw [← HNF.out]; omega] at z
    exact Own.mono z (by have := hGA.out; have := HK.out.size; omega)
   case pos =>
   have hlz2 : (i : Int) < (NF : Int) := by omega
   have hiF : i < m.Funcs.length := by rw [← HNF.out]; exact hlt2
   obtain ⟨_, _, fe, -, -, -, f4⟩ := HI1.out
   injection fe with fe1 fe2 fe3
   subst fe1 fe3
   obtain ⟨fb, fof, hfa, fc⟩ := f4 (by omega)
   subst hfa
   have hgf := (HG.out.func i hiF).2.2
   obtain ⟨⟨fnm, fst, fsz⟩, hfu⟩ : ∃ f, f = nth m.Funcs i := ⟨_, rfl⟩
   rw [← hfu] at hgf
   dsimp only at hgf
   obtain ⟨g1, g2, g3⟩ := hgf
   have hsm0 := sumF_mono HG.out (show 0 ≤ i by omega) (Nat.le_of_lt hiF)
   have hsz0 : sumF m 0 = 0 := rfl
   have d1 : wr.drew.cell? ⟨fb, fof + i * 3 + 1, none⟩ = some (.int .i64 fst) := by have z := (HK.out.trans hkr).cell (fc i 1 hiF (by decide)); try dsimp only at z
                                                                                    rw [← hfu] at z; exact z
   have d2 : wr.drew.cell? ⟨fb, fof + i * 3 + 2, none⟩ = some (.int .i64 fsz) := by have z := (HK.out.trans hkr).cell (fc i 2 hiF (by decide)); try dsimp only at z
                                                                                    rw [← hfu] at z; exact z
   obtain ⟨en, hen⟩ : ∃ z, z = fst + fsz := ⟨_, rfl⟩
   have hf0 : 0 ≤ fst := by omega
   have hfe : fst < en := by omega
   have heT : en ≤ TL := by have := HTL.out; omega
   have wE : IntKind.i64.wrap (fst + fsz) = en := by rw [hen, IntKind.wrap_i64]; omega
   have hsz : en - fst ≤ fsz.toNat := by omega
   have hR := swA_is m.Text ⟨fnm, fst, fsz⟩
   unfold fEnd at hR
   dsimp only at hR
   rw [← hen] at hR
   obtain ⟨R, hRR⟩ : ∃ R, R = swA m.Text (nth m.Funcs i) := ⟨_, rfl⟩
   rw [hfu, ← hRR] at hR
   obtain ⟨FZ, hFZ⟩ : ∃ n, n = fsz.toNat := ⟨_, rfl⟩
   rw [← hFZ] at hR hsz
   have HR := Lib.hid hR
   have HRR := Lib.hid hRR
   have n1d : wr.drew.cell? ⟨w.heap.size, 1, none⟩ = some (.slice (some ⟨fb, fof, none⟩) NF x1c) := n1
   have d1c : wr.cell? ⟨fb, fof + i * 3 + 1, none⟩ = some (.int .i64 fst) := d1
   have dl := lt_of_cell d1c
   have HN1C := Lib.hid n1
   have HD1C := Lib.hid d1c
   clear hfu g1 g2 g3 hsm0 hsz0 fc f4 fe2 hen hR hRR hFZ d1c
   go_upto_region 9 with fail
   clear n1
   refine wp_region_held_drew (S := Cells [(w.heap.size, 1, .slice (some ⟨fb, fof, none⟩) NF x1c), (fb, fof + i * 3 + 1, .int .i64 fst), (fb, fof + i * 3 + 2, .int .i64 fsz)]) (by kernel_rfl) ⟨n1d, d1, d2, trivial⟩ (fun hHeld => ?_)
   clear n1d d1 d2
   refine takeC 0 hHeld ?_
   refine takeC 1 hHeld ?_
   refine takeC 2 hHeld ?_
   refine takeC 3 hHeld ?_
   refine takeC 4 hHeld ?_
   refine takeC 5 hHeld ?_
   refine takeC 6 hHeld ?_
   refine takeC 7 hHeld ?_
   refine takeC 8 hHeld ?_
   refine takeC 9 hHeld ?_
   refine takeC 10 hHeld ?_
   refine takeC 11 hHeld ?_
   refine takeC 12 hHeld ?_
   refine takeC 13 hHeld ?_
   refine wpAnyH_done (by kernel_rfl) ?_ _
   clear hHeld
   have n1 := HN1C.out
   have d1 := HD1C.out
   go_upto_region 11 with fail
   clear n1 d1 wE
   go_upto_block 4 with fail
   obtain ⟨wq, cq, hwq, hkq, hTq, hb9⟩ := one_paint wr c1 (.cells #[.int .i64 0, .int .i64 0, .int .i64 0, .int .i64 0, .int .i64 0, .bool false] 61) 2
   rw [← hwq]
   obtain ⟨g9, hg9⟩ : ∃ g, g = wr.heap.size := ⟨_, rfl⟩
   rw [← hg9]
   rw [← hg9] at hb9
   have hdr : Keeps wq wq.drew := (Keeps.refl _).drew
   have HTq := Lib.hid ((HTb.out.trans (hTq (fun z => z = 1 ∨ z = 2))).keep hdr)
   have HOq := Lib.hid ((HOb.out.turn (hTq (fun _ => False)) (fun q => q)).keep hdr)
   have HB9 : Hid (BlkC 2 cq wq.drew g9 (.cells (insC zeroIns) 61)) := Lib.hid (BlkC.keep hb9 hdr)
   clear hwq hkq hTq hb9 hg9 hdr hkr
   go_wp2_with fail
   go_loopw [8] (fun s8 wr => ∃ (a : Int) (n : Nat) (acc : List Sp) (c3 : Nat → Nat) (la : Ins), s8 = .int .i64 a ∧ Hid (0 ≤ a ∧ en - a ≤ n ∧ (acc = [] → a < en) ∧ a ≤ en) ∧ Hid (swR m.Text en n a acc = R) ∧ Hid (Turn (fun z => z = 1 ∨ z = 2) (fun _ => 0) W c3 wr) ∧ Hid (OwnI 1 c3 wr gA (.slice (some ⟨gA, 0, none⟩) N1 N1) (ownArr (own1 i acc (ownS (allS m) i)) N1)) ∧ Hid (BlkC 2 c3 wr g9 (.cells (insC la) 61)) ∧ Hid (acc ≠ [] → la = (nth acc (acc.length - 1)).I ∧ 1 ≤ la.K)) (fun s8 _ => (en - intOf s8).toNat)
   case atStart => exact ⟨fst, FZ, [], cq, zeroIns, rfl, Lib.hid ⟨hf0, hsz, fun _ => hfe, by omega⟩, HR, HTq, HOq, HB9, Lib.hid (fun h => absurd rfl h)⟩
   case round =>
    clear HTq HOq HB9
    obtain ⟨a, n, acc, c3, ⟨lK, lD, lA, lB, lN, lLg⟩, rfl, HB, HRR3, HT3, HO3, HB3, HLA⟩ := hrel
    obtain ⟨a0, an, ane, ae⟩ := HB.out
    have hkr : Keeps W wr := HT3.out.below (Nat.le_refl _) (fun _ _ => rfl) (by decide)
    have hb3 := HB3.out.1
    by_cases hlt3 : a < en
    case neg =>
     have tl3 : decide (a < en) = false := decide_eq_false hlt3
     have hacc : acc ≠ [] := fun q => hlt3 (ane q)
     have hla := HLA.out hacc
     have hr : swF acc = R := by
      have q := HRR3.out
      cases n with
      | zero => exact q
      | succ n1 => unfold swR at q; rwa [if_neg hlt3] at q
     have hk1 : 1 ≤ lK := hla.2
     have hlb : lstB acc = (!(stN lK) && !decide (lK = 22)) := by unfold lstB; rw [← hla.1]
     unfold swF at hr
     rw [hlb] at hr
     have HEN := Lib.hid (fun W' => ends_any lK lD lA lB lN lLg W' hk1)
     unfold insV at HEN
     have l0 : wr.cell? ⟨g9, 0, none⟩ = some (.int .i64 lK) := hb3.cell rfl
     have l1 : wr.cell? ⟨g9, 1, none⟩ = some (.int .i64 lD) := hb3.cell rfl
     have l2 : wr.cell? ⟨g9, 2, none⟩ = some (.int .i64 lA) := hb3.cell rfl
     have l3 : wr.cell? ⟨g9, 3, none⟩ = some (.int .i64 lB) := hb3.cell rfl
     have l4 : wr.cell? ⟨g9, 4, none⟩ = some (.int .i64 lN) := hb3.cell rfl
     have l5 : wr.cell? ⟨g9, 5, none⟩ = some (.bool lLg) := hb3.cell rfl
     have HB3' := Lib.hid hb3
     have HKR := Lib.hid hkr
     have hbadF : badF m.Text (nth m.Funcs i) = false ↔ R = some (spsF m.Text (nth m.Funcs i)) := by
      rw [HRR.out]; unfold swA
      cases badF m.Text (nth m.Funcs i) <;> simp
     have hgood : ∀ x, R = some x → badF m.Text (nth m.Funcs i) = false ∧ x = nth (allS m) i := fun x q => by
      rw [allS_nth m hiF]
      rw [HRR.out] at q
      unfold swA at q
      split at q
      ·cases q
      ·rename_i h9
       exact ⟨by simpa using h9, (Option.some.inj q).symm⟩
     have hbad : R = none → badF m.Text (nth m.Funcs i) = true := fun q => by
      rw [HRR.out] at q
      unfold swA at q
      split at q
      ·assumption
      ·cases q
     have HGD := Lib.hid hgood
     have HBD := Lib.hid hbad
     obtain ⟨EN, hEN⟩ : ∃ z, z = endsN lK := ⟨_, rfl⟩
     rw [← hEN] at HEN
     clear hbadF hgood hbad hacc hla hlb hkr hb3
     by_cases hst : stN lK = true
     case pos =>
      rw [hst] at hr
      have he1 : EN = 1 := by rw [hEN]; unfold endsN; rw [if_pos hst]
      subst he1
      have hgd := HGD.out acc hr.symm
      have HGG := Lib.hid hgd
      clear hr hst hEN hgd hk1
      go_wp2_with (go_at_call 22; refine (HEN.out _).mono ?_; rintro e wb ⟨rfl, hkb⟩)
      go_roundw
      case rel => exact ⟨i + 1, c3, by omega, by go_num, Lib.hid (HT3.out.keep hkb), Lib.hid (by
       have z := HO3.out.keep hkb
       rw [HGG.out.2] at z
       exact z), Lib.hid (fun k hk => by
        rcases Nat.lt_or_ge k i with q | q
        ·exact HNB.out k q
        ·obtain rfl : k = i := by omega
         exact HGG.out.1)⟩
      case measure => simp [intOf]; omega
     case neg =>
     have hst0 : stN lK = false := by simpa using hst
     rw [hst0] at hr
     by_cases h22 : lK = 22
     case pos =>
      subst h22
      have he1 : EN = 3 := by rw [hEN]; decide
      subst he1
      have hgd := HGD.out acc (by simpa using hr.symm)
      have HGG := Lib.hid hgd
      clear hr hst hst0 hEN hgd hk1
      go_wp2_with (first | (go_at_call 22; refine (HEN.out _).mono ?_; rintro e wb ⟨rfl, hkb⟩; have l0 := (HB3'.out.keep hkb).cell (j := 0) rfl; have l1 := (HB3'.out.keep hkb).cell (j := 1) rfl; have l2 := (HB3'.out.keep hkb).cell (j := 2) rfl; have l3 := (HB3'.out.keep hkb).cell (j := 3) rfl; have l4 := (HB3'.out.keep hkb).cell (j := 4) rfl; have l5 := (HB3'.out.keep hkb).cell (j := 5) rfl; have HKB := Lib.hid hkb) | (go_at_call 22; refine (HEN.out _).mono ?_; rintro e wd ⟨rfl, hkd⟩))
      go_roundw
      case rel => exact ⟨i + 1, c3, by omega, by go_num, Lib.hid ((HT3.out.keep HKB.out).keep hkd), Lib.hid (by
       have z := (HO3.out.keep HKB.out).keep hkd
       rw [HGG.out.2] at z
       exact z), Lib.hid (fun k hk => by
        rcases Nat.lt_or_ge k i with q | q
        ·exact HNB.out k q
        ·obtain rfl : k = i := by omega
         exact HGG.out.1)⟩
      case measure => simp [intOf]; omega
     case neg =>
      have he0 : EN ≠ 1 ∧ EN ≠ 3 := by
       rw [hEN]
       unfold endsN
       rw [if_neg hst, if_neg h22]
       split <;> exact ⟨by decide, by decide⟩
      have t1 : (EN != 1) = true := by simpa using he0.1
      have t3 : (EN != 3) = true := by simpa using he0.2
      rw [decide_eq_false h22] at hr
      have HBB := Lib.hid (HBD.out (by simpa using hr.symm))
      clear hr hst hst0 hEN h22 he0 hk1
      go_wp2_with (first | (go_at_call 22; refine (HEN.out _).mono ?_; rintro e wb ⟨rfl, hkb⟩; have l0 := (HB3'.out.keep hkb).cell (j := 0) rfl; have l1 := (HB3'.out.keep hkb).cell (j := 1) rfl; have l2 := (HB3'.out.keep hkb).cell (j := 2) rfl; have l3 := (HB3'.out.keep hkb).cell (j := 3) rfl; have l4 := (HB3'.out.keep hkb).cell (j := 4) rfl; have l5 := (HB3'.out.keep hkb).cell (j := 5) rfl; have HKB := Lib.hid hkb) | (go_at_call 22; refine (HEN.out _).mono ?_; rintro e wd ⟨rfl, hkd⟩))
      refine bodyPost_ret (results_tmp2 rfl _ _ _) rfl ?_
      exact FoAns.bad hiF HBB.out (HK.out.trans (HKR.out.trans (HKB.out.trans hkd)))
    case pos =>
    obtain ⟨n1, hn1⟩ : ∃ n1, n = n1 + 1 := ⟨n - 1, by omega⟩
    subst hn1
    have hr := HRR3.out
    unfold swR at hr
    rw [if_pos hlt3] at hr
    have hfine := @decAns_fine m.Text a
    obtain ⟨⟨⟨K, D, A, B, N, Lg⟩, Z, E⟩, hX⟩ : ∃ X, X = decAns m.Text a := ⟨_, rfl⟩
    have hd : ∀ W', Keeps wr W' → _ := fun W' hk' => HIA.out W' a (HK.out.trans (hkr.trans hk'))
    rw [← hX] at hr hd
    have n0 := (HB1.out.keep hkr).cell (j := 0) rfl
    have nl0 := (HB1.out.keep hkr).lt
    have HKR := Lib.hid hkr
    have hbadR : R = none → badF m.Text (nth m.Funcs i) = true := fun q => by
     rw [HRR.out] at q
     unfold swA at q
     split at q
     ·assumption
     ·cases q
    have HBDR := Lib.hid hbadR
    clear hbadR
    by_cases hE : E = 0
    case neg =>
     rw [if_pos (Or.inl (by exact hE))] at hr
     unfold DecAns Ins.v insV at hd
     dsimp only at hd
     have t0 : (E != 0) = true := by simpa using hE
     have HRE := Lib.hid (HBDR.out hr.symm)
     have HDD := Lib.hid hd
     clear hr hd hfine hX hE hkr hb3
     go_wp2_with (go_at_call 21; refine (HDD.out _ (by repeat (with_reducible (first | assumption | exact Keeps.refl _ | refine Keeps.alloc ?_ _ | refine Keeps.drew ?_ | refine Keeps.drewN ?_ _)))).mono ?_; rintro e wa ⟨rfl, hka⟩)
     refine bodyPost_ret (results_tmp2 rfl _ _ _) rfl ?_
     exact FoAns.bad hiF HRE.out (HK.out.trans (HKR.out.trans (by repeat (with_reducible (first | assumption | exact Keeps.refl _ | refine Keeps.alloc ?_ _ | refine Keeps.drew ?_)))))
    case pos =>
    have hf := hfine (by rw [← hX]; exact hE)
    have z1 := hf.z1
    have z5 := hf.z5
    have k1 := hf.k1
    rw [← hX] at z1 z5 k1
    dsimp only at hr z1 z5 k1
    subst hE
    unfold DecAns Ins.v insV at hd
    dsimp only at hd
    have t0 : ((0 : Int) != 0) = false := rfl
    have waZ : IntKind.i64.wrap (a + Z) = a + Z := by rw [IntKind.wrap_i64]; omega
    have HDD := Lib.hid hd
    clear hd hfine hf hX
    by_cases hov : en < a + Z
    case pos =>
     rw [if_pos (Or.inr hov)] at hr
     have tv : decide (en < a + Z) = true := decide_eq_true hov
     have HRE := Lib.hid (HBDR.out hr.symm)
     clear hr hov hkr hb3
     go_wp2_with (go_at_call 21; refine (HDD.out _ (by repeat (with_reducible (first | assumption | exact Keeps.refl _ | refine Keeps.alloc ?_ _ | refine Keeps.drew ?_ | refine Keeps.drewN ?_ _)))).mono ?_; rintro e wa ⟨rfl, hka⟩)
     refine bodyPost_ret (results_tmp2 rfl _ _ _) rfl ?_
     exact FoAns.bad hiF HRE.out (HK.out.trans (HKR.out.trans (by repeat (with_reducible (first | assumption | exact Keeps.refl _ | refine Keeps.alloc ?_ _ | refine Keeps.drew ?_)))))
    case neg =>
    rw [if_neg (fun q => q.elim (fun q => q rfl) hov)] at hr
    have tv : decide (en < a + Z) = false := decide_eq_false hov
    have HRE := Lib.hid hr
    have HOV := Lib.hid hov
    obtain ⟨A0, hA0⟩ : ∃ A0 : Nat, a = (A0 : Int) := ⟨a.toNat, by omega⟩
    subst hA0
    have hA0N : A0 < N1 := by omega
    clear hr hov hkr hb3
    go_upto_region 16 with (go_at_call 21; refine (HDD.out _ (by repeat (with_reducible (first | assumption | exact Keeps.refl _ | refine Keeps.alloc ?_ _ | refine Keeps.drew ?_ | refine Keeps.drewN ?_ _)))).mono ?_; rintro e wa ⟨rfl, hka⟩)
    obtain ⟨wq, cq, hwq, hkq, hTq, hbq⟩ := one_paint wa c3 (.cells #[.int .i64 K, .int .i64 D, .int .i64 A, .int .i64 B, .int .i64 N, .bool Lg] 61) 7
    rw [← hwq]
    obtain ⟨gq, hgq⟩ : ∃ g, g = wa.heap.size := ⟨_, rfl⟩
    rw [← hgq]
    rw [← hgq] at hbq
    have hT4 := (HT3.out.keep hka).trans (hTq (fun z => z = 1 ∨ z = 2))
    have hO4 := (HO3.out.keep hka).turn (hTq (fun _ => False)) (fun q => q)
    have hB4 := (HB3.out.keep hka).turn (hTq (fun _ => False)) (fun q => q)
    obtain ⟨q1, q2, q3, q4, q5⟩ := ownC_cell hO4 (j := A0) (by rw [ownArr_len]; exact hA0N)
    obtain ⟨OV, hOV⟩ : ∃ z, z = nth (ownArr (own1 i acc (ownS (allS m) i)) N1) A0 := ⟨_, rfl⟩
    have q1' : wq.cell? ⟨gA, A0, none⟩ = some (.int .i64 OV) := by rw [hOV]; exact q1
    obtain ⟨w5, hw5⟩ : ∃ w5, w5 = wq.setCell ⟨gA, A0, none⟩ (.int .i64 i) := ⟨_, rfl⟩
    have hO5 : OwnI 1 cq w5 gA (.slice (some ⟨gA, 0, none⟩) N1 N1) (ownArr (own1 i (acc ++ [⟨A0, Z, ⟨K, D, A, B, N, Lg⟩⟩]) (ownS (allS m) i)) N1) := by
     rw [own1_snoc, ← ownArr_put _ hA0N, hw5]
     exact q4 i
    have ht5 : Turn (fun x => x = 1) cq wq cq w5 := by rw [hw5]; exact q5 _
    have hT5 := hT4.trans (ht5.mono (J := (fun z => z = 1 ∨ z = 2)) fun z h => Or.inl h)
    have hB5 := hB4.turn ht5 (by decide)
    have hb5q := hbq.turn ht5 (by decide)
    have HT5 := Lib.hid hT5
    have HO5 := Lib.hid hO5
    have HB5 := Lib.hid hB5
    have HBQ5 := Lib.hid hb5q
    have HW5 := Lib.hid hw5
    have hA0l : (A0 : Int) < (N1 : Int) := by omega
    clear hwq hkq hTq hbq hgq hT4 hO4 hB4 q1 q4 q5 hOV hO5 ht5 hT5 hB5 hb5q hw5
    go_upto_region 17 with fail
    rw [← HW5.out]
    clear HW5 q1' q2 q3
    have u0 := HBQ5.out.1.cell (j := 0) rfl
    have u1 := HBQ5.out.1.cell (j := 1) rfl
    have u2 := HBQ5.out.1.cell (j := 2) rfl
    have u3 := HBQ5.out.1.cell (j := 3) rfl
    have u4 := HBQ5.out.1.cell (j := 4) rfl
    have u5 := HBQ5.out.1.cell (j := 5) rfl
    have hb9 := HB5.out.1
    have s0 : w5.cell? ⟨g9, 0, none⟩ = some (.int .i64 lK) := hb9.cell rfl
    have s1 : w5.cell? ⟨g9, 1, none⟩ = some (.int .i64 lD) := hb9.cell rfl
    have s2 : w5.cell? ⟨g9, 2, none⟩ = some (.int .i64 lA) := hb9.cell rfl
    have s3 : w5.cell? ⟨g9, 3, none⟩ = some (.int .i64 lB) := hb9.cell rfl
    have s4 : w5.cell? ⟨g9, 4, none⟩ = some (.int .i64 lN) := hb9.cell rfl
    have s5 : w5.cell? ⟨g9, 5, none⟩ = some (.bool lLg) := hb9.cell rfl
    have y0 := hb9.thawed 0
    have y1 := hb9.thawed 1
    have y2 := hb9.thawed 2
    have y3 := hb9.thawed 3
    have y4 := hb9.thawed 4
    have y5 := hb9.thawed 5
    have yl := hb9.lt
    clear hb9
    go_wp2_with fail
    obtain ⟨w6, hw6⟩ : ∃ w6, w6 = ((((((w5).setCell ⟨g9, 0, none⟩ (.int .i64 K)).setCell ⟨g9, 1, none⟩ (.int .i64 D)).setCell ⟨g9, 2, none⟩ (.int .i64 A)).setCell ⟨g9, 3, none⟩ (.int .i64 B)).setCell ⟨g9, 4, none⟩ (.int .i64 N)).setCell ⟨g9, 5, none⟩ (.bool Lg) := ⟨_, rfl⟩
    rw [← hw6]
    obtain ⟨hb6, ht6⟩ : BlkC 2 cq w6 g9 (.cells (insC ⟨K, D, A, B, N, Lg⟩) 61) ∧ Turn (fun x => x = 2) cq w5 cq w6 := by
     obtain ⟨z0, t0⟩ := HB5.out.set 0 (.int .i64 K)
     obtain ⟨z1, t1⟩ := z0.set 1 (.int .i64 D)
     obtain ⟨z2, t2⟩ := z1.set 2 (.int .i64 A)
     obtain ⟨z3, t3⟩ := z2.set 3 (.int .i64 B)
     obtain ⟨z4, t4⟩ := z3.set 4 (.int .i64 N)
     obtain ⟨z5, t5⟩ := z4.set 5 (.bool Lg)
     rw [hw6]
     exact ⟨z5, t0.trans (t1.trans (t2.trans (t3.trans (t4.trans t5))))⟩
    have HT6 := Lib.hid (HT5.out.trans (ht6.mono (J := (fun z => z = 1 ∨ z = 2)) fun z h => Or.inr h))
    have HO6 := Lib.hid (HO5.out.turn ht6 (by decide))
    have HB6 := Lib.hid hb6
    clear hw6 hb6 ht6 u0 u1 u2 u3 u4 u5 s0 s1 s2 s3 s4 s5 y0 y1 y2 y3 y4 y5 yl
    go_roundw
    case rel => exact ⟨(A0 : Int) + Z, n1, acc ++ [⟨A0, Z, ⟨K, D, A, B, N, Lg⟩⟩], cq, ⟨K, D, A, B, N, Lg⟩, by go_num, Lib.hid ⟨by omega, by omega, fun q => absurd q (by simp), by have := HOV.out; omega⟩, HRE, HT6, HO6, HB6, Lib.hid (fun _ => ⟨by rw [nth_eq _ _ (by simp)]; simp, k1⟩)⟩
    case measure => simp [intOf]; omega
end Go.Proofs.YtnekiooaobnndaaDoor
