/-
The document's funcOf: of each byte its function where an in
-/
import Derived.Test.YtgdamggkaklhjaaDoorEmG
set_option linter.all false
namespace Go.Proofs.YtgdamggkaklhjaaDoor
open Go.RowKit BH
set_option maxHeartbeats 1000000000
set_option maxRecDepth 100000
theorem nthExt {α : Type} [Inhabited α] {l r : List α} (h : l.length = r.length) (hn : ∀ j, j < l.length → nth l j = nth r j) : l = r := by
 apply List.ext_getElem h
 intro j h1 h2
 have := hn j h1
 rw [nth_eq _ _ h1, nth_eq _ _ h2] at this
 exact this
def ownArr (om : Int → Option Int) (n : Nat) : List Int := (List.range n).map fun x : Nat => (om x).getD (-1)
theorem ownArr_len (om : Int → Option Int) (n : Nat) : (ownArr om n).length = n := by simp [ownArr]
theorem ownArr_at (om : Int → Option Int) {n j : Nat} (h : j < n) : nth (ownArr om n) j = (om j).getD (-1) := nthRange (fun x : Nat => (om x).getD (-1)) h
theorem ownArr_put (om : Int → Option Int) {n a : Nat} (h : a < n) (v : Int) : (ownArr om n).set a v = ownArr (putI om a v) n := by
 refine nthExt (by rw [List.length_set, ownArr_len, ownArr_len]) (fun j hj => ?_)
 rw [List.length_set, ownArr_len] at hj
 have e : nth ((ownArr om n).set a v) j = if a = j then v else nth (ownArr om n) j := by
  rw [nth_eq _ _ (by rw [List.length_set, ownArr_len]; exact hj), List.getElem_set]
  split
  ·rfl
  rw [nth_eq _ _ (by rw [ownArr_len]; exact hj)]
 rw [e, ownArr_at _ hj, ownArr_at _ hj]
 unfold putI
 by_cases q : a = j
 ·subst q; rw [if_pos rfl, if_pos rfl]; rfl
 rw [if_neg q, if_neg jo]
theorem own1_snoc (v : Int) (l : List Sp) (s : Sp) (om : Int → Option Int) : own1 v (l ++ [s]) om = putI (own1 v l om) s.A v := by unfold own1; rw [List.foldl_append]; rfl
def insC (x : Ins) : Array Value := #[.int .i64 x.K, .int .i64 x.D, .int .i64 x.A, .int .i64 x.B, .int .i64 x.N, .bool x.Lg]
def FoAns (m : Img) (w : World) (e : Ending) (w' : World) : Prop :=
 (anyN (fun i => badF m.Text (nth m.Funcs i)) m.Funcs.length = true → e = .returned (.tuple #[.slice none 0 0, .bool false])) ∧
 (anyN (fun i => badF m.Text (nth m.Funcs i)) m.Funcs.length = false → ∃ g, e = .returned (.tuple #[.slice (some ⟨g, 0, none⟩) (m.Text.length + 1) (m.Text.length + 1), .bool true]) ∧ Own w' w.heap.size 3 1 (fun x => [iV x]) (.slice (some ⟨g, 0, none⟩) (m.Text.length + 1) (m.Text.length + 1)) (ownArr (ownS (allS m) m.Funcs.length) (m.Text.length + 1))) ∧ Keeps w w'
theorem FoAns.bad {m : Img} {w w' : World} {i : Nat} (hi : i < m.Funcs.length) (hb : badF m.Text (nth m.Funcs i) = true) (hk : Keeps w w') : FoAns m w (.returned (.tuple #[.slice none 0 0, .bool false])) w' :=
 ⟨fun _ => rfl, fun q => (by rw [anyN_yes (p := fun i => badF m.Text (nth m.Funcs i)) hi hb] at q; cases q), hk⟩
theorem funcOf_any {v : Value} {m : Img} {w : World} (hm : ImgAt w v m) (hg : ImgGood m) (h2 : m.Text.length ≤ 2000) : Calls Tryd.prog 38 #[v] w (FoAns m w) := by
 obtain ⟨v0, v1, v2, v3, v4, rfl, i0, i1, i2, i3, i4⟩ := hm
 obtain ⟨x0, Kj, rfl⟩ := Arr.form i0
 obtain ⟨x1, Hy, rfl⟩ := Arr.form i1
 obtain ⟨TL, Hz⟩ := jE (m.Text.length)
 obtain ⟨NF, HA⟩ := jE (m.Funcs.length)
 obtain ⟨N1, Kk⟩ := jE (m.Text.length + 1)
 obtain ⟨Kl, KT, HG⟩ := hid3 (fun (W' : World) (x : Int) (hk : Keeps w W') => instrAt_any _ m.Text x W' (Arr.keep i0 hk : Bytes W' _ m.Text) jo) i1 hg
 have Km : NF ≤ 40 := by rw [HA]; exact hg.funcs
 rw [← Hz] at Kl h2
 rw [← Hz, ← HA]
 obtain ⟨Kn, HP, HQ⟩ := hid3 Hz HA Kk
 have KU : N1 ≤ 2001 := by omega
 have KV : TL < N1 := by omega
 clear i0 i1 i2 i3 i4 hg Hz HA Kk
 have KW : IntKind.i64.wrap ((TL : Int) + 1) = (N1 : Int) := by rw [IntKind.wrap_i64]; have := Kn.out; have := HQ.out; omega
 obtain ⟨W, hW, HS, Ko⟩ : ∃ W, W = w.alloc (.cells #[.slice x0 TL Kj, .slice x1 NF Hy, v2, v3, v4, .int .i64 m.Entry] 28) ∧ Blk W w.heap.size (.cells #[.slice x0 TL Kj, .slice x1 NF Hy, v2, v3, v4, .int .i64 m.Entry] 28) ∧ Keeps w W := ⟨_, rfl, Blk.top _ _, (Keeps.refl _).alloc _⟩
 obtain ⟨HW, HK, HC, HSW⟩ := hid4 hW Ko HS (show W.heap.size = w.heap.size + 1 by rw [hW, sz_alloc])
 have n0 := HS.cell (j := 0) rfl
 clear hW HS Ko
 obtain ⟨ti, Kp, Kq, Kr, Ks⟩ := infoParts info_int
 go_enter Tryd.func38, Tryd.ntmps38
 go_upto_region 1 with fail
 rw [← HW.out]
 clear HW
 go_upto_region 2 with (at_make; refine wpList_make_full _ rfl _ _ 25 rfl W.heap.size 3 ti (.int .i64 0) 1 Tryd.underlying25 Kp Kq Kr .i64 .i64 _ _ N1 rfl rfl rfl rfl (by rw [Ks]; omega) (by unfold maxLen; omega) (Nat.le_refl _) ?_; intro w2 H8 Hj)
 have Kt : Keeps W w2 := below_grown Hj (Nat.le_refl _) fun q e => by cases e
 obtain ⟨c2, Ku, HT⟩ := OwnC.fresh (fun _ => 0) 1 Kt (ownMadeG iV (0 : Int) rfl H8) (Nat.le_refl _)
 obtain ⟨gA, HU⟩ := jE (W.heap.size)
 rw [← HU] at HT ⊢
 obtain ⟨Kv, Kw, KX⟩ := hid3 (Ku (fun z => z = 1 ∨ z = 2)) HT HU
 clear Kt Ku HT H8 Hj HU n0 Kp Kq Kr Ks KW
 go_wp2_with fail
 go_loopw [5] (fun s5 wr => ∃ (k : Nat) (l : List Int) (c1 : Nat → Nat), k ≤ N1 ∧ s5 = .int .i64 k ∧ Hid (Turn (fun z => z = 1 ∨ z = 2) (fun _ => 0) W c1 wr) ∧ Hid (OwnI 1 c1 wr gA (.slice (some ⟨gA, 0, none⟩) N1 N1) l) ∧ Hid (l.length = N1 ∧ ∀ j, j < N1 → nth l j = if j < k then -1 else 0)) (fun s5 _ => N1 - (intOf s5).toNat)
 case atStart => exact ⟨0, _, c2, Nat.zero_le _, rfl, Kv, Kw, jH ⟨List.length_replicate, fun j hj => by rw [nth_eq _ _ (by rw [List.length_replicate]; exact hj), List.getElem_replicate, if_neg (Nat.not_lt_zero _)]⟩⟩
 case round =>
 obtain ⟨k, l, c1, hk, rfl, HV, HX, H7⟩ := hrel
 by_cases hlt : k < N1
 case pos =>
  have hlz : (k : Int) < (N1 : Int) := by omega
  obtain ⟨q1, q2, q3, q4, q5⟩ := ownC_cell HX.out (j := k) (by rw [H7.out.1]; exact hlt)
  have Kx : wr.cell? ⟨gA, k, none⟩ = some (.int .i64 (nth l k)) := q1
  obtain ⟨KY, KZ⟩ := hid2 (q4 (-1)) (HV.out.trans ((q5 (iV (-1))).mono (J := (fun z => z = 1 ∨ z = 2)) fun z h => Or.inl h))
  clear q1 q4 q5
  go_wp2_with fail
  go_roundw
  case rel => exact ⟨k + 1, l.set k (-1), c1, by omega, by go_num, KZ, KY, jH ⟨by rw [List.length_set]; exact H7.out.1, fun j hj => by
   rw [nth_eq _ _ (by rw [List.length_set, H7.out.1]; exact hj), List.getElem_set]
   by_cases z : k = j
   ·rw [if_pos z, if_pos jo]
   rw [if_neg z, ← nth_eq _ _ (by rw [H7.out.1]; exact hj), H7.out.2 j hj]
   by_cases z2 : j < k
   ·rw [if_pos z2, if_pos jo]
   rw [if_neg z2, if_neg jo]⟩⟩
  case measure => exact jm
 case neg =>
 have tl : decide ((k : Int) < (N1 : Int)) = false := decide_eq_false jo
 have Ky : l = ownArr (ownS (allS m) 0) N1 := nthExt (by rw [H7.out.1, ownArr_len]) (fun j hj => by rw [H7.out.1] at hj; rw [H7.out.2 j hj, ownArr_at _ hj, if_pos jo]; rfl)
 have Hk : Hid (OwnI 1 c1 wr gA (.slice (some ⟨gA, 0, none⟩) N1 N1) (ownArr (ownS (allS m) 0) N1)) := jH (by rw [← Ky]; exact HX.out)
 clear Ky HX H7 Kv Kw
 go_wp2_with fail
 go_loopw [6] (fun s6 wr => ∃ (i : Nat) (c1 : Nat → Nat), i ≤ NF ∧ s6 = .int .i64 i ∧ Hid (Turn (fun z => z = 1 ∨ z = 2) (fun _ => 0) W c1 wr) ∧ Hid (OwnI 1 c1 wr gA (.slice (some ⟨gA, 0, none⟩) N1 N1) (ownArr (ownS (allS m) i) N1)) ∧ Hid (∀ j, j < i → badF m.Text (nth m.Funcs j) = false)) (fun s6 _ => NF - (intOf s6).toNat)
 case atStart => exact ⟨0, c1, Nat.zero_le _, rfl, HV, Hk, jH (fun j hj => absurd hj (Nat.not_lt_zero _))⟩
 case round =>
 clear HV Hk
 obtain ⟨i, c1, hi, rfl, Kz, Hk, HY⟩ := hrel
 have H2 : Keeps W wr := Kz.out.below (Nat.le_refl _) (fun _ _ => rfl) jd
 have n1 := (HC.out.keep H2).cell (j := 1) rfl
 have nl := (HC.out.keep H2).lt
 by_cases hlt2 : i < NF
 case neg =>
  have tl2 : decide ((i : Int) < (NF : Int)) = false := decide_eq_false jo
  have HE : Hid (anyN (fun i => badF m.Text (nth m.Funcs i)) m.Funcs.length = false) := jH (anyN_no (fun j hj => HY.out j (by rw [← HP.out] at hj; omega)))
  have Hi := jH H2
  clear H2
  go_wp2_with fail
  refine bodyPost_ret (results_tmp2 rfl _ _ _) rfl ?_
  refine ⟨fun q => (by rw [HE.out] at q; cases q), fun _ => ⟨gA, by rw [← HQ.out]; rfl, ?_⟩, HK.out.trans Hi.out⟩
  rw [← HQ.out]
  have z := Hk.out.1
  rw [show i = m.Funcs.length by rw [← HP.out]; omega] at z
  exact Own.mono z (by have := KX.out; have := HK.out.size; omega)
 case pos =>
 have M0 : (i : Int) < (NF : Int) := by omega
 have H9 : i < m.Funcs.length := by rw [← HP.out]; exact hlt2
 obtain ⟨_, _, fe, -, -, -, f4⟩ := KT.out
 injection fe with fe1 fe2 fe3
 subst fe1 fe3
 obtain ⟨fb, Hd, M1, fc⟩ := f4 jo
 subst M1
 have HZ := (HG.out.func i H9).2.2
 obtain ⟨⟨M2, fst, He⟩, Hl⟩ : ∃ f, f = nth m.Funcs i := ⟨_, rfl⟩
 rw [← Hl] at HZ
 dsimp only at HZ
 obtain ⟨g1, g2, g3⟩ := HZ
 have K0 := sumF_mono HG.out (show 0 ≤ i by omega) (Nat.le_of_lt H9)
 have K1 : sumF m 0 = 0 := rfl
 have d1 : wr.drew.cell? ⟨fb, Hd + i * 3 + 1, none⟩ = some (.int .i64 fst) := by have z := (HK.out.trans H2).cell (fc i 1 H9 jd); (try dsimp only at z); rw [← Hl] at z; exact z
 have d2 : wr.drew.cell? ⟨fb, Hd + i * 3 + 2, none⟩ = some (.int .i64 He) := by have z := (HK.out.trans H2).cell (fc i 2 H9 jd); (try dsimp only at z); rw [← Hl] at z; exact z
 obtain ⟨en, K2⟩ := jE (fst + He)
 have M3 : 0 ≤ fst := by omega
 have M4 : fst < en := by omega
 have heT : en ≤ TL := by have := Kn.out; omega
 have wE : IntKind.i64.wrap (fst + He) = en := by rw [K2, IntKind.wrap_i64]; omega
 have KA : en - fst ≤ He.toNat := by omega
 have hR := swA_is m.Text ⟨M2, fst, He⟩
 unfold fEnd at hR
 dsimp only at hR
 rw [← K2] at hR
 obtain ⟨R, K3⟩ := jE (swA m.Text (nth m.Funcs i))
 rw [Hl, ← K3] at hR
 obtain ⟨FZ, KB⟩ := jE (He.toNat)
 rw [← KB] at hR KA
 obtain ⟨HR, HD⟩ := hid2 hR K3
 have KC := jv wr.drew w.heap.size 1 (.slice (some ⟨fb, Hd, none⟩) NF Hy) n1
 have K4 := jc wr fb (Hd + i * 3 + 1) fst d1
 have dl := lt_of_cell K4
 obtain ⟨K5, K6⟩ := hid2 n1 K4
 clear Hl g1 g2 g3 K0 K1 fc f4 fe2 K2 hR K3 KB K4
 go_upto_region 9 with fail
 clear n1
 refine wp_region_held_drew (S := Cells [(w.heap.size, 1, .slice (some ⟨fb, Hd, none⟩) NF Hy), (fb, Hd + i * 3 + 1, .int .i64 fst), (fb, Hd + i * 3 + 2, .int .i64 He)]) jx ⟨KC, d1, d2, trivial⟩ (fun hHeld => ?_)
 clear KC d1 d2
 refine jp 0 hHeld ?_
 refine jp 1 hHeld ?_
 refine jp 2 hHeld ?_
 refine jp 3 hHeld ?_
 refine jp 4 hHeld ?_
 refine jp 5 hHeld ?_
 refine jp 6 hHeld ?_
 refine jp 7 hHeld ?_
 refine jp 8 hHeld ?_
 refine jp 9 hHeld ?_
 refine jp 10 hHeld ?_
 refine jp 11 hHeld ?_
 refine jp 12 hHeld ?_
 refine jp 13 hHeld ?_
 refine wpAnyH_done jx ?_ _
 clear hHeld
 have n1 := K5.out
 have d1 := K6.out
 go_upto_region 11 with fail
 clear n1 d1 wE
 go_upto_block 4 with fail
 obtain ⟨wq, cq, Hm, K7, Ha, H4⟩ := one_paint wr c1 (.cells #[.int .i64 0, .int .i64 0, .int .i64 0, .int .i64 0, .int .i64 0, .bool false] 64) 2
 rw [← Hm]
 obtain ⟨g9, K8⟩ := jE (wr.heap.size)
 rw [← K8]
 rw [← K8] at H4
 have HF : Keeps wq wq.drew := (Keeps.refl _).drew
 obtain ⟨KD, KE⟩ := hid2 ((Kz.out.trans (Ha (fun z => z = 1 ∨ z = 2))).keep HF) ((Hk.out.turn (Ha (fun _ => False)) (fun q => q)).keep HF)
 have KF : Hid (BlkC 2 cq wq.drew g9 (.cells (insC zeroIns) 64)) := jH (BlkC.keep H4 HF)
 clear Hm K7 Ha H4 K8 HF H2
 go_wp2_with fail
 go_loopw [8] (fun s8 wr => ∃ (a : Int) (n : Nat) (H3 : List Sp) (c3 : Nat → Nat) (la : Ins), s8 = .int .i64 a ∧ Hid (0 ≤ a ∧ en - a ≤ n ∧ (H3 = [] → a < en) ∧ a ≤ en) ∧ Hid (swR m.Text en n a H3 = R) ∧ Hid (Turn (fun z => z = 1 ∨ z = 2) (fun _ => 0) W c3 wr) ∧ Hid (OwnI 1 c3 wr gA (.slice (some ⟨gA, 0, none⟩) N1 N1) (ownArr (own1 i H3 (ownS (allS m) i)) N1)) ∧ Hid (BlkC 2 c3 wr g9 (.cells (insC la) 64)) ∧ Hid (H3 ≠ [] → la = (nth H3 (H3.length - 1)).I ∧ 1 ≤ la.K)) (fun s8 _ => (en - intOf s8).toNat)
 case atStart => exact ⟨fst, FZ, [], cq, zeroIns, rfl, jH ⟨M3, KA, fun _ => M4, by omega⟩, HR, KD, KE, KF, jH (fun h => absurd rfl h)⟩
 case round =>
 clear KD KE KF
 obtain ⟨a, n, H3, c3, ⟨lK, lD, lA, lB, lN, K9⟩, rfl, HB, Hn, HH, Ka, KG, M5⟩ := hrel
 obtain ⟨a0, an, M6, ae⟩ := HB.out
 have H2 : Keeps W wr := HH.out.below (Nat.le_refl _) (fun _ _ => rfl) jd
 have H5 := KG.out.1
 by_cases hlt3 : a < en
 case neg =>
  have tl3 : decide (a < en) = false := decide_eq_false hlt3
  have Ho : H3 ≠ [] := fun q => hlt3 (M6 q)
  have Kb := M5.out Ho
  have hr : swF H3 = R := by
   have q := Hn.out
   cases n with
   | zero => exact q
   | succ n1 => unfold swR at q; rwa [if_neg hlt3] at q
  have HI : 1 ≤ lK := Kb.2
  have KH : lstB H3 = (!(stN lK) && !decide (lK = 22)) := by unfold lstB; rw [← Kb.1]
  unfold swF at hr
  rw [KH] at hr
  have Hf := jH (fun W' => ends_any lK lD lA lB lN K9 W' HI)
  unfold insV at Hf
  have l0 := jc wr g9 0 lK (H5.cell rfl)
  have l1 := jc wr g9 1 lD (H5.cell rfl)
  have l2 := jc wr g9 2 lA (H5.cell rfl)
  have l3 := jc wr g9 3 lB (H5.cell rfl)
  have l4 := jc wr g9 4 lN (H5.cell rfl)
  have l5 := jv wr g9 5 (.bool K9) (H5.cell rfl)
  have H0 := jH H5
  have Hi := jH H2
  have Hp : badF m.Text (nth m.Funcs i) = false ↔ R = some (spsF m.Text (nth m.Funcs i)) := by
   rw [HD.out]; unfold swA
   cases badF m.Text (nth m.Funcs i) <;> simp
  have Hb : ∀ x, R = some x → badF m.Text (nth m.Funcs i) = false ∧ x = nth (allS m) i := fun x q => by
   rw [allS_nth m H9]
   rw [HD.out] at q
   unfold swA at q
   split at q
   ·cases q
   rename_i h9
   exact ⟨by simpa using h9, (Option.some.inj q).symm⟩
  have Hq : R = none → badF m.Text (nth m.Funcs i) = true := fun q => by
   rw [HD.out] at q
   unfold swA at q
   split at q
   ·assumption
   cases q
  obtain ⟨KI, M7⟩ := hid2 Hb Hq
  obtain ⟨EN, Hg⟩ := jE (endsN lK)
  rw [← Hg] at Hf
  clear Hp Hb Hq Ho Kb KH H2 H5
  by_cases hst : stN lK = true
  case pos =>
   rw [hst] at hr
   have Kc : EN = 1 := by rw [Hg]; unfold endsN; rw [if_pos hst]
   subst Kc
   have Hr := KI.out H3 hr.symm
   have Hs := jH Hr
   clear hr hst Hg Hr HI
   go_wp2_with (go_at_call 40; refine (Hf.out _).mono ?_; rintro e wb ⟨rfl, H1⟩)
   go_roundw
   case rel => exact ⟨i + 1, c3, by omega, by go_num, jH (HH.out.keep H1), jH (by
    have z := Ka.out.keep H1
    rw [Hs.out.2] at z
    exact z), jH (fun k hk => by
     rcases Nat.lt_or_ge k i with q | q
     ·exact HY.out k q
     obtain rfl : k = i := by omega
     exact Hs.out.1)⟩
   case measure => exact jm
  case neg =>
  have Hh : stN lK = false := by simpa using hst
  rw [Hh] at hr
  by_cases h22 : lK = 22
  case pos =>
   subst h22
   have Kc : EN = 3 := by rw [Hg]; decide
   subst Kc
   have Hr := KI.out H3 (by simpa using hr.symm)
   have Hs := jH Hr
   clear hr hst Hh Hg Hr HI
   go_wp2_with (first | (go_at_call 40; refine (Hf.out _).mono ?_; rintro e wb ⟨rfl, H1⟩; have l0 := (H0.out.keep H1).cell (j := 0) rfl; have l1 := (H0.out.keep H1).cell (j := 1) rfl; have l2 := (H0.out.keep H1).cell (j := 2) rfl; have l3 := (H0.out.keep H1).cell (j := 3) rfl; have l4 := (H0.out.keep H1).cell (j := 4) rfl; have l5 := (H0.out.keep H1).cell (j := 5) rfl; have HJ := jH H1) | (go_at_call 40; refine (Hf.out _).mono ?_; rintro e wd ⟨rfl, HL⟩))
   go_roundw
   case rel => exact ⟨i + 1, c3, by omega, by go_num, jH ((HH.out.keep HJ.out).keep HL), jH (by
    have z := (Ka.out.keep HJ.out).keep HL
    rw [Hs.out.2] at z
    exact z), jH (fun k hk => by
     rcases Nat.lt_or_ge k i with q | q
     ·exact HY.out k q
     obtain rfl : k = i := by omega
     exact Hs.out.1)⟩
   case measure => exact jm
  case neg =>
  have Kd : EN ≠ 1 ∧ EN ≠ 3 := by rw [Hg]; unfold endsN; rw [if_neg hst, if_neg h22]; split <;> exact ⟨by decide, by decide⟩
  have t1 : (EN != 1) = true := by simpa using Kd.1
  have t3 : (EN != 3) = true := by simpa using Kd.2
  rw [decide_eq_false h22] at hr
  have M8 := jH (M7.out (by simpa using hr.symm))
  clear hr hst Hh Hg h22 Kd HI
  go_wp2_with (first | (go_at_call 40; refine (Hf.out _).mono ?_; rintro e wb ⟨rfl, H1⟩; have l0 := (H0.out.keep H1).cell (j := 0) rfl; have l1 := (H0.out.keep H1).cell (j := 1) rfl; have l2 := (H0.out.keep H1).cell (j := 2) rfl; have l3 := (H0.out.keep H1).cell (j := 3) rfl; have l4 := (H0.out.keep H1).cell (j := 4) rfl; have l5 := (H0.out.keep H1).cell (j := 5) rfl; have HJ := jH H1) | (go_at_call 40; refine (Hf.out _).mono ?_; rintro e wd ⟨rfl, HL⟩))
  refine bodyPost_ret (results_tmp2 rfl _ _ _) rfl ?_
  exact FoAns.bad H9 M8.out (HK.out.trans (Hi.out.trans (HJ.out.trans HL)))
 case pos =>
 obtain ⟨n1, M9⟩ : ∃ n1, n = n1 + 1 := ⟨n - 1, by omega⟩
 subst M9
 have hr := Hn.out
 unfold swR at hr
 rw [if_pos hlt3] at hr
 have H6 := @decAns_fine m.Text a
 obtain ⟨⟨⟨K, D, A, B, N, Lg⟩, Z, E⟩, hX⟩ : ∃ X, X = decAns m.Text a := ⟨_, rfl⟩
 have hd : ∀ W', Keeps wr W' → _ := fun W' hk' => Kl.out W' a (HK.out.trans (H2.trans hk'))
 rw [← hX] at hr hd
 have n0 := (HC.out.keep H2).cell (j := 0) rfl
 have nl0 := (HC.out.keep H2).lt
 have Hi := jH H2
 have Hc : R = none → badF m.Text (nth m.Funcs i) = true := fun q => by
  rw [HD.out] at q
  unfold swA at q
  split at q
  ·assumption
  cases q
 have Ht := jH Hc
 clear Hc
 by_cases hE : E = 0
 case neg =>
  rw [if_pos (Or.inl (by exact hE))] at hr
  unfold DecAns Ins.v insV at hd
  dsimp only at hd
  have t0 : (E != 0) = true := by simpa using hE
  obtain ⟨Hu, HM⟩ := hid2 (Ht.out hr.symm) hd
  clear hr hd H6 hX hE H2 H5
  go_wp2_with (go_at_call 39; refine (HM.out _ ku5).mono ?_; rintro e wa ⟨rfl, Hv⟩)
  refine bodyPost_ret (results_tmp2 rfl _ _ _) rfl ?_
  exact FoAns.bad H9 Hu.out (HK.out.trans (Hi.out.trans (by repeat (with_reducible (first | assumption | exact Keeps.refl _ | refine Keeps.alloc ?_ _ | refine Keeps.drew ?_)))))
 case pos =>
 have hf := H6 (by rw [← hX]; exact hE)
 have z1 := hf.z1
 have z5 := hf.z5
 have k1 := hf.k1
 rw [← hX] at z1 z5 k1
 dsimp only at hr z1 z5 k1
 subst hE
 unfold DecAns Ins.v insV at hd
 dsimp only at hd
 have t0 : ((0 : Int) != 0) = false := rfl
 have waZ : IntKind.i64.wrap (a + Z) = a + Z := jw
 have HM := jH hd
 clear hd H6 hf hX
 by_cases hov : en < a + Z
 case pos =>
  rw [if_pos (Or.inr hov)] at hr
  have tv : decide (en < a + Z) = true := decide_eq_true hov
  have Hu := jH (Ht.out hr.symm)
  clear hr hov H2 H5
  go_wp2_with (go_at_call 39; refine (HM.out _ ku5).mono ?_; rintro e wa ⟨rfl, Hv⟩)
  refine bodyPost_ret (results_tmp2 rfl _ _ _) rfl ?_
  exact FoAns.bad H9 Hu.out (HK.out.trans (Hi.out.trans (by repeat (with_reducible (first | assumption | exact Keeps.refl _ | refine Keeps.alloc ?_ _ | refine Keeps.drew ?_)))))
 case neg =>
 rw [if_neg (fun q => q.elim (fun q => q rfl) hov)] at hr
 have tv : decide (en < a + Z) = false := decide_eq_false hov
 obtain ⟨Hu, Ma⟩ := hid2 hr hov
 obtain ⟨A0, Mb⟩ : ∃ A0 : Nat, a = (A0 : Int) := ⟨a.toNat, by omega⟩
 subst Mb
 have Hw : A0 < N1 := by omega
 clear hr hov H2 H5
 go_upto_region 16 with (go_at_call 39; refine (HM.out _ ku5).mono ?_; rintro e wa ⟨rfl, Hv⟩)
 obtain ⟨wq, cq, Hm, K7, Ha, Ke⟩ := one_paint wa c3 (.cells #[.int .i64 K, .int .i64 D, .int .i64 A, .int .i64 B, .int .i64 N, .bool Lg] 64) 7
 rw [← Hm]
 obtain ⟨gq, Kf⟩ := jE (wa.heap.size)
 rw [← Kf]
 rw [← Kf] at Ke
 have KJ := (HH.out.keep Hv).trans (Ha (fun z => z = 1 ∨ z = 2))
 have KK := (Ka.out.keep Hv).turn (Ha (fun _ => False)) (fun q => q)
 have KL := (KG.out.keep Hv).turn (Ha (fun _ => False)) (fun q => q)
 obtain ⟨q1, q2, q3, q4, q5⟩ := ownC_cell KK (j := A0) (by rw [ownArr_len]; exact Hw)
 obtain ⟨OV, KM⟩ := jE (nth (ownArr (own1 i H3 (ownS (allS m) i)) N1) A0)
 have Kx : wq.cell? ⟨gA, A0, none⟩ = some (.int .i64 OV) := by rw [KM]; exact q1
 obtain ⟨w5, HN⟩ := jE (wq.setCell ⟨gA, A0, none⟩ (.int .i64 i))
 have KN : OwnI 1 cq w5 gA (.slice (some ⟨gA, 0, none⟩) N1 N1) (ownArr (own1 i (H3 ++ [⟨A0, Z, ⟨K, D, A, B, N, Lg⟩⟩]) (ownS (allS m) i)) N1) := by rw [own1_snoc, ← ownArr_put _ Hw, HN]; exact q4 i
 have HO : Turn (fun x => x = 1) cq wq cq w5 := by rw [HN]; exact q5 _
 have KO := KJ.trans (HO.mono (J := (fun z => z = 1 ∨ z = 2)) fun z h => Or.inl h)
 have KP := KL.turn HO jd
 have Hx := Ke.turn HO jd
 obtain ⟨Mc, Md, KQ, Kg⟩ := hid4 KO KN KP Hx
 have KR := jH HN
 have Me : (A0 : Int) < (N1 : Int) := by omega
 clear Hm K7 Ha Ke Kf KJ KK KL q1 q4 q5 KM KN HO KO KP Hx HN
 go_upto_region 17 with fail
 rw [← KR.out]
 clear KR Kx q2 q3
 obtain ⟨u0, u1, u2, u3, u4, u5⟩ := Kg.out.1.k6
 have H4 := KQ.out.1
 have s0 := jc w5 g9 0 lK (H4.cell rfl)
 have s1 := jc w5 g9 1 lD (H4.cell rfl)
 have s2 := jc w5 g9 2 lA (H4.cell rfl)
 have s3 := jc w5 g9 3 lB (H4.cell rfl)
 have s4 := jc w5 g9 4 lN (H4.cell rfl)
 have s5 := jv w5 g9 5 (.bool K9) (H4.cell rfl)
 obtain ⟨y0, y1, y2, y3, y4, y5⟩ := H4.t6
 have yl := H4.lt
 clear H4
 go_wp2_with fail
 obtain ⟨w6, Kh⟩ := jE (((((((w5).setCell ⟨g9, 0, none⟩ (.int .i64 K)).setCell ⟨g9, 1, none⟩ (.int .i64 D)).setCell ⟨g9, 2, none⟩ (.int .i64 A)).setCell ⟨g9, 3, none⟩ (.int .i64 B)).setCell ⟨g9, 4, none⟩ (.int .i64 N)).setCell ⟨g9, 5, none⟩ (.bool Lg))
 rw [← Kh]
 obtain ⟨KS, Ki⟩ : BlkC 2 cq w6 g9 (.cells (insC ⟨K, D, A, B, N, Lg⟩) 64) ∧ Turn (fun x => x = 2) cq w5 cq w6 := by
  obtain ⟨z0, t0⟩ := KQ.out.set 0 (.int .i64 K)
  obtain ⟨z1, t1⟩ := z0.set 1 (.int .i64 D)
  obtain ⟨z2, t2⟩ := z1.set 2 (.int .i64 A)
  obtain ⟨z3, t3⟩ := z2.set 3 (.int .i64 B)
  obtain ⟨z4, t4⟩ := z3.set 4 (.int .i64 N)
  obtain ⟨z5, t5⟩ := z4.set 5 (.bool Lg)
  rw [Kh]
  exact ⟨z5, t0.trans (t1.trans (t2.trans (t3.trans (t4.trans t5))))⟩
 obtain ⟨Mf, Mg, Mh⟩ := hid3 (Mc.out.trans (Ki.mono (J := (fun z => z = 1 ∨ z = 2)) fun z h => Or.inr h)) (Md.out.turn Ki jd) KS
 clear Kh KS Ki u0 u1 u2 u3 u4 u5 s0 s1 s2 s3 s4 s5 y0 y1 y2 y3 y4 y5 yl
 go_roundw
 case rel => exact ⟨(A0 : Int) + Z, n1, H3 ++ [⟨A0, Z, ⟨K, D, A, B, N, Lg⟩⟩], cq, ⟨K, D, A, B, N, Lg⟩, by go_num, jH ⟨by omega, by omega, fun q => absurd q (by simp), by have := Ma.out; omega⟩, Hu, Mf, Mg, Mh, jH (fun _ => ⟨by rw [nth_eq _ _ (by simp)]; simp, k1⟩)⟩
 case measure => exact jm
end Go.Proofs.YtgdamggkaklhjaaDoor
