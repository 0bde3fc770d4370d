/-
(*maker).settle: addresses; what leads too far is made long,
-/
import Derived.Test.YtgdamggkaklhjaaDoorFlRec9P
set_option linter.all false
namespace Go.Proofs.YtgdamggkaklhjaaDoor
open Go.RowKit BH
set_option maxHeartbeats 1000000000
set_option maxRecDepth 100000
def ItOk (t : It) : Prop := ∀ b : Bool, (b = true → 0 ≤ t.Bl) → insFault t.I.K t.I.D t.I.A t.I.B t.I.N (t.I.Lg || b) = 0
theorem ItOk.lng {t : It} (h : ItOk t) (b : Bool) (hb : b = true → 0 ≤ t.Bl) : ItOk (lngI t b) := fun b2 h2 => by
 show insFault t.I.K t.I.D t.I.A t.I.B t.I.N ((t.I.Lg || b) || b2) = 0
 rw [Bool.or_assoc]
 exact h (b || b2) (fun q => by
  cases b with
  | true => exact hb rfl
  | false => exact h2 q)
structure StG (L : List It) (fst : List Int) : Prop where
 ok : ∀ k, k < L.length → ItOk (nth L k)
 goes : ∀ k, k < L.length → 0 ≤ (nth L k).Bl → (nth L k).Bl.toNat < fst.length ∧ 0 ≤ nth fst (nth L k).Bl.toNat ∧ nth fst (nth L k).Bl.toNat < L.length
 len : L.length ≤ 1000000000
 pos : 0 < L.length
theorem farI_to {L : List It} {fst : List Int} {k : Nat} (h : farI L fst k = true) : 0 ≤ (nth L k).Bl := by
 unfold farI at h
 rw [Bool.and_eq_true] at h
 exact of_decide_eq_true h.1
theorem StG.round {L : List It} {fst : List Int} (h : StG L fst) : StG (rnd L fst) fst := by
 have hl : (rnd L fst).length = L.length := rndK_len _ _ _
 have hn : ∀ k, k < L.length → nth (rnd L fst) k = lngI (nth L k) (decide (k < L.length) && farI L fst k) := fun k hk => rndK_nth hk
 refine ⟨fun k hk => ?_, fun k hk h0 => ?_, by rw [hl]; exact h.len, by rw [hl]; exact h.pos⟩
 ·rw [hl] at hk
  rw [hn k hk]
  exact (h.ok k hk).lng _ fun q => by rw [Bool.and_eq_true] at q; exact farI_to q.2
 rw [hl] at hk ⊢
 rw [hn k hk] at h0 ⊢
 exact h.goes k hk h0
theorem szI_le (i : Ic) : szI i ≤ 6 := by
 have := (sizeT_bd _ (shapeN_lt i.K.toNat)).2
 unfold szI insSize
 split <;> omega
theorem adI_in (L : List It) : ∀ k : Nat, 0 ≤ adI L k ∧ adI L k ≤ 6 * k
 | 0 => ⟨Int.le_refl _, Int.le_refl _⟩
 | k + 1 => by have := adI_in L k; have h1 := szI_nn (nth L k).I; have h2 := szI_le (nth L k).I; (show 0 ≤ adI L k + szI (nth L k).I ∧ adI L k + szI (nth L k).I ≤ _); omega
def adrs (L : List It) : List (It × Int) := (List.range L.length).map fun k => (nth L k, adI L k)
theorem adrs_len (L : List It) : (adrs L).length = L.length := by simp [adrs]
theorem adrs_nth {L : List It} {k : Nat} (h : k < L.length) : nth (adrs L) k = (nth L k, adI L k) := nthRange _ h
theorem setl_stop {fst : List Int} {L : List It} (h : anyFar L fst = false) : ∀ n, setl fst n L = L
 | 0 => rfl
 | n + 1 => by unfold setl; rw [h, if_neg jd]
theorem setl_more {fst : List Int} {L : List It} (h : anyFar L fst = true) {n : Nat} (hn : shorts L ≤ n) : ∃ k, n = k + 1 ∧ setl fst n L = setl fst k (rnd L fst) ∧ shorts (rnd L fst) ≤ k := by
 have h1 := rnd_short (its := L) (fst := fst) (S := fun _ => false) (by rw [Lng_no]; exact h)
 rw [Lng_no] at h1
 obtain ⟨k, rfl⟩ : ∃ k, n = k + 1 := ⟨n - 1, by omega⟩
 refine ⟨k, rfl, ?_, by omega⟩
 show (if anyFar L fst = true then setl fst k (rnd L fst) else L) = _
 rw [if_pos h]
theorem anyN_succ (p : Nat → Bool) (k : Nat) : anyN p (k + 1) = (anyN p k || p k) := rfl
section
variable {m : Img} {f : Fl} {w0 : World} {v0 v1 v2 v3 v4 f0 f1 f2 : Value} {xb : Nat} {vI vF vB : Value} {its : List (It × Int)} {fst beg : List Int} {c : Nat → Nat} {w : World}
theorem Mkr.itm {g NI cap : Nat} (h : Mkr m f w0 v0 v1 v2 v3 v4 f0 f1 f2 xb (.slice (some ⟨g, 0, none⟩) NI cap) vF vB its fst beg c w) {k : Nat} (hk : k < its.length) : its.length = NI ∧ g < w.heap.size ∧ (∀ q u, q < 11 → (cim (nth its k))[q]? = some u → w.cell? ⟨g, k * 11 + q, none⟩ = some u) ∧ (∀ j, w.frozen? ⟨g, j, none⟩ = false) ∧
  ∀ (q : Nat) (u : Value) (y : It × Int) (w' : World), q < 11 → cim y = (cim (nth its k)).set q u → w' = w.setCell ⟨g, k * 11 + q, none⟩ u → Turn (fun i => i = 2) c w c w' ∧ Mkr m f w0 v0 v1 v2 v3 v4 f0 f1 f2 xb (.slice (some ⟨g, 0, none⟩) NI cap) vF vB (its.set k y) fst beg c w' := by
 obtain ⟨g', H0, e, h1, h2, h3, -, h5⟩ := h.item hk
 injection e with e1 e2 e3
 injection e1 with e1
 injection e1 with e1
 subst e1
 exact ⟨e2.symm, h1, h2, h3, h5⟩
def StAns (m : Img) (f : Fl) (w0 : World) (v0 v1 v2 v3 v4 f0 f1 f2 : Value) (xb : Nat) (vI vF vB : Value) (c : Nat → Nat) (w : World) (L : List It) (fst beg : List Int) (w' : World) : Prop :=
 ∃ c', Turn (fun i => i = 2) c w c' w' ∧ Mkr m f w0 v0 v1 v2 v3 v4 f0 f1 f2 xb vI vF vB (adrs L) fst beg c' w'
theorem settle_any {L0 : List It} (hX : Mkr m f w0 v0 v1 v2 v3 v4 f0 f1 f2 xb vI vF vB its fst beg c w) (ht : Tab w0) (hs : Siz w0) (hG : StG L0 fst) (hl : its.length = L0.length) (hL : ∀ j, j < L0.length → (nth its j).1 = nth L0 j) :
  Calls Tryd.prog 13 #[.pointer (some ⟨xb, 0, none⟩)] w fun e w' => e = .returned (.int .i64 (adI (setI fst L0) L0.length)) ∧ StAns m f w0 v0 v1 v2 v3 v4 f0 f1 f2 xb vI vF vB c w (setI fst L0) fst beg w' := by
 obtain ⟨NI, Ho⟩ := jE (L0.length)
 have HF := hG.pos
 have HH := hG.len
 rw [← Ho] at hl hL HF HH ⊢
 obtain ⟨g, Hd, rfl, -, -, -, -, -⟩ := hX.item (k := 0) jo
 have HI : Mkr m f w0 v0 v1 v2 v3 v4 f0 f1 f2 xb (.slice (some ⟨g, 0, none⟩) NI Hd) vF vB its fst beg c w := by rw [← hl]; exact hX
 rw [hl]
 obtain ⟨fa, cF, rfl⟩ := own_form' hX.fst.1
 obtain ⟨NF, HJ⟩ := jE (fst.length)
 rw [← HJ] at HI ⊢
 obtain ⟨R, hR⟩ := jE (setI fst L0)
 rw [← hR]
 obtain ⟨HZ, K0, K1, K2⟩ := hid4 (show shorts L0 ≤ NI ∧ setl fst NI L0 = R from ⟨by rw [Ho]; exact shorts_le _, by rw [hR, Ho]; rfl⟩) hG (show its.length = NI ∧ L0.length = NI ∧ ∀ j, j < NI → (nth its j).1 = nth L0 j from ⟨hl, Ho.symm, hL⟩) HI
 obtain ⟨K3, Kk⟩ := hid2 (show Tab w0 ∧ Siz w0 from ⟨ht, hs⟩) HJ
 clear hX HI hG hl hL ht hs Ho hR HJ
 go_enter Tryd.func13, Tryd.ntmps13
 go_wp2_with fail
 go_loopg [] NI (fun gk wr => ∃ (L : List It) (M : List (It × Int)) (cc : Nat → Nat), Hid (shorts L ≤ gk ∧ setl fst gk L = R) ∧ Hid (StG L fst) ∧ Hid (M.length = NI ∧ L.length = NI ∧ ∀ j, j < NI → (nth M j).1 = nth L j) ∧ Hid (Turn (fun i => i = 2) c w cc wr) ∧ Hid (Mkr m f w0 v0 v1 v2 v3 v4 f0 f1 f2 xb (.slice (some ⟨g, 0, none⟩) NI Hd) (.slice fa NF cF) vB M fst beg cc wr))
 case atStart => exact ⟨L0, its, c, HZ, K0, K1, jH (Turn.refl _ _ _), K2⟩
 case round =>
 clear HZ K0 K1 K2
 obtain ⟨L, M, cc, HR, HG, HM, HT, HX⟩ := hrel
 obtain ⟨wo, Kl⟩ := jE wr
 subst Kl
 have H9 := jH HM.out.2.1
 have x9 := jv wo xb 9 (.slice (some ⟨g, 0, none⟩) NI Hd) (HX.out.blk.1.cell rfl)
 go_wp2_with fail
 clear x9
 go_loopw [16, 3] (fun s16 s3 wr => ∃ (k : Nat) (M : List (It × Int)) (cc : Nat → Nat), k ≤ NI ∧ s16 = .int .i64 k ∧ s3 = .int .i64 (adI L k) ∧ Hid (M.length = NI ∧ (∀ j, j < NI → (nth M j).1 = nth L j) ∧ ∀ j, j < k → (nth M j).2 = adI L j) ∧ Hid (Turn (fun i => i = 2) c w cc wr) ∧ Hid (Mkr m f w0 v0 v1 v2 v3 v4 f0 f1 f2 xb (.slice (some ⟨g, 0, none⟩) NI Hd) (.slice fa NF cF) vB M fst beg cc wr)) (fun s16 _ _ => NI - (intOf s16).toNat)
 case atStart => exact ⟨0, M, cc, Nat.zero_le _, rfl, rfl, jH ⟨HM.out.1, HM.out.2.2, fun j hj => absurd hj (Nat.not_lt_zero _)⟩, HT, HX⟩
 case round =>
 clear HM HT HX
 obtain ⟨k, M, cc, hk, rfl, rfl, HM, HT, HX⟩ := hrel
 by_cases hlt : k < NI
 case pos =>
  have HK : (k : Int) < (NI : Int) := by omega
  obtain ⟨H6, H4, H3⟩ := HM.out
  obtain ⟨-, lg, H0, He, H7⟩ := HX.out.itm (k := k) jo
  obtain ⟨⟨⟨⟨K, D, A, B, N, Lg⟩, Bl, Fn, Ha, Li⟩, At⟩, hy⟩ : ∃ y, y = nth M k := ⟨_, rfl⟩
  have Hy : (⟨⟨K, D, A, B, N, Lg⟩, Bl, Fn, Ha, Li⟩ : It) = nth L k := by rw [← H4 k hlt, ← hy]
  rw [← hy] at H0 H7
  have x9 := jv wr xb 9 (.slice (some ⟨g, 0, none⟩) NI Hd) (HX.out.blk.1.cell rfl)
  have Km := jc wr g (k * 11 + 10) At (H0 10 _ jd rfl)
  have Kn := He (k * 11 + 10)
  have Ko := adI_in L k
  obtain ⟨SZ, Hp⟩ := jE (szI ⟨K, D, A, B, N, Lg⟩)
  have Hm : adI L (k + 1) = adI L k + SZ := by rw [Hp]; show adI L k + szI (nth L k).I = _; rw [← Hy]
  obtain ⟨AK, Hf⟩ := jE (adI L k)
  rw [← Hf] at Ko Hm ⊢
  obtain ⟨w5, Hn⟩ := jE (wr.setCell ⟨g, k * 11 + 10, none⟩ (.int .i64 AK))
  obtain ⟨t5, Hg⟩ := H7 10 (.int .i64 AK) (⟨⟨K, D, A, B, N, Lg⟩, Bl, Fn, Ha, Li⟩, AK) w5 jd rfl Hn
  obtain ⟨-, -, Hj, -, -⟩ := Hg.itm (k := k) (by rw [List.length_set]; omega)
  rw [nth_setw _ _ _ _ jo, if_pos rfl] at Hj
  have H5 : insFault K D A B N Lg = 0 := by have q := HG.out.ok k (by rw [H9.out]; exact hlt) false (fun q => by cases q); rw [← Hy] at q; simpa using q
  have Hb : ∀ w', Keeps w5 w' → Calls Tryd.prog 31 #[insV K D A B N Lg] w' fun e w'' => e = .returned (.tuple #[.int .i64 SZ, .int .i64 0]) ∧ Keeps w' w'' := fun w' h => by have q := size_any K D A B N Lg w' (K3.out.1.keep (Hg.keep.trans h)) (K3.out.2.keep (Hg.keep.trans h)); (rw [H5, show sizeAns K D A B N Lg = SZ by unfold sizeAns; rw [if_pos H5, Hp]; rfl] at q); exact q
  unfold insV at Hb
  have hs0 : 0 ≤ SZ := by rw [Hp]; exact szI_nn _
  have HL : SZ ≤ 6 := by rw [Hp]; exact szI_le _
  have Hq := jH Hb
  have Hr : Hid ((M.set k (⟨⟨K, D, A, B, N, Lg⟩, Bl, Fn, Ha, Li⟩, AK)).length = NI ∧ (∀ j, j < NI → (nth (M.set k (⟨⟨K, D, A, B, N, Lg⟩, Bl, Fn, Ha, Li⟩, AK)) j).1 = nth L j) ∧ ∀ j, j < k + 1 → (nth (M.set k (⟨⟨K, D, A, B, N, Lg⟩, Bl, Fn, Ha, Li⟩, AK)) j).2 = adI L j) := jH (by
   refine ⟨by rw [List.length_set]; exact H6, fun j hj => ?_, fun j hj => ?_⟩
   ·rw [nth_setw _ _ _ _ jo]
    by_cases q : k = j
    ·rw [if_pos q, ← q, ← Hy]
    rw [if_neg q]; exact H4 j hj
   rw [nth_setw _ _ _ _ jo]
   by_cases q : k = j
   ·rw [if_pos q, Hf, q]
   rw [if_neg q]; exact H3 j jo)
  obtain ⟨HO, HP, Kp⟩ := hid3 Hg (HT.out.trans t5) Hm
  have y9 := jv w5 xb 9 (.slice (some ⟨g, 0, none⟩) NI Hd) (Hg.blk.1.cell rfl)
  have r0 := jc w5 g (k * 11) K (Hj 0 _ jd rfl)
  have r1 := jc w5 g (k * 11 + 1) D (Hj 1 _ jd rfl)
  have r2 := jc w5 g (k * 11 + 2) A (Hj 2 _ jd rfl)
  have r3 := jc w5 g (k * 11 + 3) B (Hj 3 _ jd rfl)
  have r4 := jc w5 g (k * 11 + 4) N (Hj 4 _ jd rfl)
  have r5 := jv w5 g (k * 11 + 5) (.bool Lg) (Hj 5 _ jd rfl)
  clear HM HT HX H6 H4 H3 H0 H7 He hy Hy Hp Hm Hf t5 Hg Hj H5 Hb hk
  go_upto_region 6 with fail
  rw [← Hn]
  clear Hn Km Kn lg x9
  go_wp2_with (go_at_call 31; refine (Hq.out _ ku5).mono ?_; rintro e wa ⟨rfl, K4⟩)
  go_roundw
  case rel => exact ⟨k + 1, _, cc, by omega, by go_num, by rw [Kp.out], Hr, jH (HP.out.keep K4), jH (HO.out.keeps K4)⟩
  case measure => exact jm
 case neg =>
 obtain rfl : k = NI := by omega
 obtain ⟨w1, Kq⟩ := jE wr
 subst Kq
 have x9 := jv w1 xb 9 (.slice (some ⟨g, 0, none⟩) k Hd) (HX.out.blk.1.cell rfl)
 clear hlt hk
 go_wp2_with fail
 clear x9
 have Hz := HM
 have K5 := HT
 have K6 := HX
 clear HM HT HX
 go_loopw [48, 7] (fun s48 s7 wr => ∃ (q : Nat) (M : List (It × Int)) (cc : Nat → Nat) (dn : Bool), q ≤ k ∧ s48 = .int .i64 q ∧ s7 = .bool dn ∧ Hid (dn = !(anyN (farI L fst) q)) ∧ Hid (M.length = k ∧ (∀ j, j < k → (nth M j).2 = adI L j) ∧ ∀ j, j < k → (nth M j).1 = lngI (nth L j) (decide (j < q) && farI L fst j)) ∧ Hid (Turn (fun i => i = 2) c w cc wr) ∧ Hid (Mkr m f w0 v0 v1 v2 v3 v4 f0 f1 f2 xb (.slice (some ⟨g, 0, none⟩) k Hd) (.slice fa NF cF) vB M fst beg cc wr)) (fun s48 _ _ => k - (intOf s48).toNat)
 case atStart => exact ⟨0, M, cc, true, Nat.zero_le _, rfl, rfl, jH rfl, jH ⟨Hz.out.1, Hz.out.2.2, fun j hj => by rw [Hz.out.2.1 j hj, show (decide (j < 0) && farI L fst j) = false by simp, lngI_no]⟩, K5, K6⟩
 case round =>
 clear Hz K5 K6
 obtain ⟨q, M, cc, dn, hq, rfl, rfl, HQ, HM, HT, HX⟩ := hrel
 by_cases hlt : q < k
 case pos =>
  have HK : (q : Int) < (k : Int) := by omega
  obtain ⟨H6, H3, H4⟩ := HM.out
  obtain ⟨-, lg, H0, He, H7⟩ := HX.out.itm (k := q) jo
  obtain ⟨⟨⟨⟨K, D, A, B, N, Lg⟩, Bl, Fn, Ha, Li⟩, AK⟩, hy⟩ : ∃ y, y = nth M q := ⟨_, rfl⟩
  have H8 : (⟨⟨K, D, A, B, N, Lg⟩, Bl, Fn, Ha, Li⟩ : It) = nth L q := by have z := H4 q hlt; (rw [show (decide (q < q) && farI L fst q) = false by simp, lngI_no, ← hy] at z); exact z
  have Hf : AK = adI L q := by have z := H3 q hlt; rw [← hy] at z; exact z
  rw [← hy] at H0 H7
  have Hs : farI L fst q = (decide (0 ≤ Bl) && (!Lg && (decide (dsI L fst q < -128) || decide (127 < dsI L fst q)))) := by unfold farI; rw [← H8]
  have Hk : farI L fst q = false → Hid (dn = !(anyN (farI L fst) (q + 1))) ∧ Hid (M.length = k ∧ (∀ j, j < k → (nth M j).2 = adI L j) ∧ ∀ j, j < k → (nth M j).1 = lngI (nth L j) (decide (j < q + 1) && farI L fst j)) := fun hf => by
   refine ⟨jH (by rw [HQ.out, anyN_succ, hf, Bool.or_false]), jH ⟨H6, H3, fun j hj => ?_⟩⟩
   rw [H4 j hj]
   congr 1
   by_cases z : j = q
   ·rw [z, hf, Bool.and_false, Bool.and_false]
   rw [decide_eq_decide.2 (show j < q ↔ j < q + 1 by omega)]
  have p9 := jv wr xb 9 (.slice (some ⟨g, 0, none⟩) k Hd) (HX.out.blk.1.cell rfl)
  have p6 := jc wr g (q * 11 + 6) Bl (H0 6 _ jd rfl)
  have p5 := jv wr g (q * 11 + 5) (.bool Lg) (H0 5 _ jd rfl)
  have K7 := jc wr g (q * 11 + 10) AK (H0 10 _ jd rfl)
  obtain ⟨H1, Hh⟩ := hid2 Hk Hs
  clear Hk Hs
  by_cases hb0 : Bl < 0
  case pos =>
   have b1 : decide (Bl < 0) = true := decide_eq_true hb0
   have Ht : farI L fst q = false := by rw [Hh.out, decide_eq_false (show ¬ 0 ≤ Bl by omega)]; rfl
   have Hl := jH Ht
   clear Ht hb0 H6 H3 H4 H0 He H7 hy H8 Hf
   go_wp2_with fail
   go_roundw
   case rel => exact ⟨q + 1, M, cc, dn, by omega, by go_num, rfl, (H1.out Hl.out).1, (H1.out Hl.out).2, HT, HX⟩
   case measure => exact jm
  case neg =>
  have b1 : decide (Bl < 0) = false := decide_eq_false hb0
  by_cases hlg : Lg = true
  case pos =>
   subst hlg
   have Ht : farI L fst q = false := by rw [Hh.out]; simp
   have Hl := jH Ht
   clear Ht hb0 H6 H3 H4 H0 He H7 hy H8 Hf
   go_wp2_with fail
   go_roundw
   case rel => exact ⟨q + 1, M, cc, dn, by omega, by go_num, rfl, (H1.out Hl.out).1, (H1.out Hl.out).2, HT, HX⟩
   case measure => exact jm
  case neg =>
  obtain rfl : Lg = false := by simpa using hlg
  clear hlg
  obtain ⟨bl, rfl⟩ : ∃ n : Nat, Bl = n := ⟨Bl.toNat, by omega⟩
  obtain ⟨h1, h2, h3⟩ := HG.out.goes q (by rw [H9.out]; exact hlt) (by rw [← H8]; exact Int.natCast_nonneg _)
  rw [← H8, H9.out] at h3
  rw [← H8] at h1 h2
  dsimp only at h1 h2 h3
  rw [Int.toNat_natCast] at h1 h2 h3
  obtain ⟨fi, HA⟩ : ∃ n : Nat, nth fst bl = n := ⟨(nth fst bl).toNat, by omega⟩
  rw [HA] at h3
  obtain ⟨gF, cF2, Kr, -, HS, -, -⟩ := HX.out.first (n := bl) h1
  rw [HA] at HS
  injection Kr with HU HV HW
  subst HU
  obtain ⟨-, -, Hc, -, -⟩ := HX.out.itm (k := fi) jo
  have ef : wr.cell? ⟨g, fi * 11 + 10, none⟩ = some (.int .i64 (adI L fi)) := by rw [← H3 fi jo]; exact Hc 10 _ jd rfl
  have a1 := adI_in L fi
  have a2 := adI_in L q
  have K8 := HG.out.len
  rw [H9.out] at K8
  have HB : dsI L fst q = adI L fi - AK := by unfold dsI; rw [← H8, Hf]; dsimp only; rw [Int.toNat_natCast, HA, Int.toNat_natCast]
  rw [← Hf] at a2
  obtain ⟨AF, K9⟩ := jE (adI L fi)
  rw [← K9] at ef a1 HB
  obtain ⟨DS, Ka⟩ := jE (AF - AK)
  rw [← Ka] at HB
  have hw : IntKind.i64.wrap (AF - AK) = DS := jw
  have Kb := jv wr xb 10 (.slice (some ⟨gF, 0, none⟩) NF cF) (HX.out.blk.1.cell rfl)
  have Ks : (bl : Int) < (NF : Int) := by have := Kk.out; omega
  have Kt : (fi : Int) < (k : Int) := by omega
  have Hu : Hid (farI L fst q = (decide (DS < -128) || decide (127 < DS))) := jH (by rw [Hh.out, HB, decide_eq_true (show (0 : Int) ≤ (bl : Int) by omega)]; rfl)
  have H2 : Keeps wr wr.drew := (Keeps.refl _).drew
  obtain ⟨HC, HD⟩ := hid2 (HX.out.keeps H2) (HT.out.keep H2)
  have Kc := H2.cell p9
  have Kd := H2.cell p6
  have Hv := H2.cell K7
  have Ke := H2.cell ef
  have Kf := H2.cell HS
  have Hw := H2.cell Kb
  obtain ⟨Hr, HY⟩ := hid2 (show _ ∧ _ ∧ _ from ⟨H6, H3, H4⟩) (show _ ∧ _ from ⟨hy, H8⟩)
  clear H6 H3 H4 H0 He H7 hy H8 Hf h1 h2 h3 HA HV HW Hc a1 a2 K8 HB K9 Ka H2 ef HS Kb Hh
  go_upto_region 15 with fail
  clear p9 p6 K7 p5
  refine wp_region_held_drew (S := Cells [(xb, 9, .slice (some ⟨g, 0, none⟩) k Hd), (xb, 10, .slice (some ⟨gF, 0, none⟩) NF cF), (g, q * 11 + 6, .int .i64 bl), (gF, bl, .int .i64 fi), (g, fi * 11 + 10, .int .i64 AF), (g, q * 11 + 10, .int .i64 AK)]) jx ⟨Kc, Hw, Kd, Kf, Ke, Hv, trivial⟩ (fun hHeld => ?_)
  refine jp 0 hHeld ?_
  refine jp 1 hHeld ?_
  refine jp 2 hHeld ?_
  refine jp 3 hHeld ?_
  refine jp 4 hHeld ?_
  refine jp 5 hHeld ?_
  refine jp 6 hHeld ?_
  refine jp 7 hHeld ?_
  refine jp 8 hHeld ?_
  refine jp 9 hHeld ?_
  refine jp 10 hHeld ?_
  refine jp 11 hHeld ?_
  refine jp 12 hHeld ?_
  refine jp 13 hHeld ?_
  refine jp 14 hHeld ?_
  refine jp 15 hHeld ?_
  refine jp 16 hHeld ?_
  refine jp 17 hHeld ?_
  refine jp 18 hHeld ?_
  refine jp 19 hHeld ?_
  refine jp 20 hHeld ?_
  refine jp 21 hHeld ?_
  refine jp 22 hHeld ?_
  refine wpAnyH_done jx ?_ _
  clear hHeld Kc Kd Hv Ke Kf Hw hw
  obtain ⟨wd, Kg⟩ := jE (wr.drew)
  rw [← Kg] at HC HD ⊢
  clear Kg
  by_cases hfr : DS < -128 ∨ 127 < DS
  case pos =>
   obtain ⟨hy, H8⟩ := HY.out
   obtain ⟨H6, H3, H4⟩ := Hr.out
   obtain ⟨-, lg, H0, He, H7⟩ := HC.out.itm (k := q) jo
   rw [← hy] at H0 H7
   have p5 := jv wd g (q * 11 + 5) (.bool false) (H0 5 _ jd rfl)
   have f5 := He (q * 11 + 5)
   obtain ⟨w5, Hn⟩ := jE (wd.setCell ⟨g, q * 11 + 5, none⟩ (.bool true))
   obtain ⟨t5, Hg⟩ := H7 5 (.bool true) (⟨⟨K, D, A, B, N, true⟩, bl, Fn, Ha, Li⟩, AK) w5 jd rfl Hn
   have HE : farI L fst q = true := by
    rw [Hu.out]
    rcases hfr with z | z
    ·rw [decide_eq_true z]; rfl
    rw [decide_eq_true z, Bool.or_true]
   have HN : Hid (false = !(anyN (farI L fst) (q + 1))) := jH (by rw [anyN_succ, HE, Bool.or_true]; rfl)
   have Ku : Hid ((M.set q (⟨⟨K, D, A, B, N, true⟩, (bl : Int), Fn, Ha, Li⟩, AK)).length = k ∧ (∀ j, j < k → (nth (M.set q (⟨⟨K, D, A, B, N, true⟩, (bl : Int), Fn, Ha, Li⟩, AK)) j).2 = adI L j) ∧ ∀ j, j < k → (nth (M.set q (⟨⟨K, D, A, B, N, true⟩, (bl : Int), Fn, Ha, Li⟩, AK)) j).1 = lngI (nth L j) (decide (j < q + 1) && farI L fst j)) := jH (by
    refine ⟨by rw [List.length_set]; exact H6, fun j hj => ?_, fun j hj => ?_⟩
    ·rw [nth_setw _ _ _ _ jo]
     by_cases z : q = j
     ·rw [if_pos z, ← z, ← H3 q jo, ← hy]
     rw [if_neg z]; exact H3 j hj
    rw [nth_setw _ _ _ _ jo]
    by_cases z : q = j
    ·rw [if_pos z, ← z, HE, decide_eq_true (show q < q + 1 by omega), ← H8]; rfl
    rw [if_neg z, H4 j hj, decide_eq_decide.2 (show j < q ↔ j < q + 1 by omega)])
   obtain ⟨HO, HP⟩ := hid2 Hg (HD.out.trans t5)
   have Kv : (decide (DS < -128) || decide (127 < DS)) = true := by rw [← Hu.out]; exact HE
   by_cases hneg : DS < -128
   all_goals
    first | (have t1 : decide (DS < -128) = true := decide_eq_true hneg) | (have t1 : decide (DS < -128) = false := decide_eq_false hneg; have t2 : decide (127 < DS) = true := decide_eq_true jo)
    clear hy H8 H6 H3 H4 H0 He H7 t5 Hg HE hfr Kv hneg Hu Hr HY H1 HC HD
    go_wp2_with fail
    rw [← Hn]
    go_roundw
    case rel => exact ⟨q + 1, _, cc, false, by omega, by go_num, rfl, HN, Ku, HP, HO⟩
    case measure => exact jm
  case neg =>
  have t1 : decide (DS < -128) = false := decide_eq_false jo
  have t2 : decide (127 < DS) = false := decide_eq_false jo
  have Hl : Hid (farI L fst q = false) := jH (by rw [Hu.out, t1, t2]; rfl)
  clear hfr Hu Hr HY
  go_wp2_with fail
  go_roundw
  case rel => exact ⟨q + 1, M, cc, dn, by omega, by go_num, rfl, (H1.out Hl.out).1, (H1.out Hl.out).2, HD, HC⟩
  case measure => exact jm
 case neg =>
 obtain rfl : q = k := by omega
 clear hlt hq
 have Hi : anyN (farI L fst) q = anyFar L fst := by unfold anyFar; rw [H9.out]
 cases hf : anyFar L fst with
 | false =>
  obtain rfl : dn = true := by rw [HQ.out, Hi, hf]; rfl
  have Hx : L = R := by rw [← HR.out.2, setl_stop hf]
  have Kh : M = adrs R := by
   obtain ⟨H6, H3, H4⟩ := HM.out
   refine ext_nth (by rw [adrs_len, H6, ← Hx, H9.out]) fun j hj => ?_
   rw [H6] at hj
   rw [adrs_nth (by rw [← Hx, H9.out]; exact hj), ← Hx]
   refine Prod.ext ?_ (H3 j hj)
   rw [H4 j hj, anyN_false hf j (by rw [H9.out]; exact hj), Bool.and_false, lngI_no]
  have Ki := jH (show _ ∧ _ from ⟨Hx, Kh⟩)
  clear Hi hf Hx Kh
  go_wp2_with fail
  go_ret
  exact ⟨by rw [← Ki.out.1]; rfl, cc, HT.out, by rw [← Ki.out.2]; exact HX.out⟩
 | true =>
  obtain rfl : dn = false := by rw [HQ.out, Hi, hf]; rfl
  obtain ⟨n, hn, HL, Kj⟩ := setl_more hf HR.out.1
  have HN := jH (show _ ∧ _ from ⟨Kj, HL ▸ HR.out.2⟩)
  have Kw : n < gk := by omega
  have Kx : Hid (M.length = q ∧ (rnd L fst).length = q ∧ ∀ j, j < q → (nth M j).1 = nth (rnd L fst) j) := jH ⟨HM.out.1, by rw [show (rnd L fst).length = L.length from rndK_len _ _ _, H9.out], fun j hj => by rw [HM.out.2.2 j hj]; (show _ = nth (rndK L fst L.length) j); rw [rndK_nth (by rw [H9.out]; exact hj), H9.out]⟩
  have Ky := jH HG.out.round
  clear Hi hf hn HL Kj
  go_wp2_with fail
  go_roundg n
  case measure => exact Kw
  case rel => exact ⟨rnd L fst, M, cc, HN, Ky, Kx, HT, HX⟩
end
end Go.Proofs.YtgdamggkaklhjaaDoor
