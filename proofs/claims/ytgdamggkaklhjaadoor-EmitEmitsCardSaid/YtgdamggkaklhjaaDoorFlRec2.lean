/-
flow.sweep: the instructions of a function, one behind the o
-/
import Derived.Test.YtgdamggkaklhjaaDoorFlRecQ
import Derived.Test.YtgdamggkaklhjaaDoorIsaDecN
set_option linter.all false
namespace Go.Proofs.YtgdamggkaklhjaaDoor
open Go.RowKit BH
set_option maxHeartbeats 100000000
set_option maxRecDepth 100000
theorem info_spot : (Tryd.prog.info? 85).map (fun i => (i.zero, i.size, i.bytes)) = some (some (.agg #[.int .i64 0, .int .i64 0, .int .i64 0, .int .i64 0, .int .i64 0, .int .i64 0, .int .i64 0, .bool false]), 8, 64) := by kernel_rfl
def csp (s : Sp) : List Value := [.int .i64 s.A, .int .i64 s.Z, .int .i64 s.I.K, .int .i64 s.I.D, .int .i64 s.I.A, .int .i64 s.I.B, .int .i64 s.I.N, .bool s.I.Lg]
theorem csp_len (s : Sp) : (csp s).length = 8 := rfl
theorem csp_one (s : Sp) : ∀ u ∈ csp s, u.oneCell' = true := by intro u hu; simp [csp] at hu; rcases hu with rfl | rfl | rfl | rfl | rfl | rfl | rfl | rfl <;> rfl
def swF (acc : List Sp) : Option (List Sp) := if lstB acc = true then none else some acc
def swR (T : List UInt8) (e : Int) : Nat → Int → List Sp → Option (List Sp)
 | 0, _, acc => swF acc
 | n + 1, a, acc => if a < e then (if (decAns T a).2.2 ≠ 0 ∨ e < a + (decAns T a).2.1 then none else swR T e n (a + (decAns T a).2.1) (acc ++ [⟨a, (decAns T a).2.1, (decAns T a).1⟩])) else swF acc
theorem swR_is (T : List UInt8) (e : Int) : ∀ (n : Nat) (a : Int) (acc : List Sp), swR T e n a acc = if (swB T e n a || lstB (acc ++ swS T e n a)) = true then none else some (acc ++ swS T e n a)
 | 0, a, acc => by simp [swR, swB, swS, swF]
 | n + 1, a, acc => by
  unfold swR swB swS
  by_cases h : a < e
  ·rw [if_pos h, if_pos h, if_pos h]
   by_cases hb : (decAns T a).2.2 ≠ 0 ∨ e < a + (decAns T a).2.1
   ·rw [if_pos hb]
    have : (decide ((decAns T a).2.2 ≠ 0) || decide (e < a + (decAns T a).2.1)) = true := by
     rcases hb with q | q
     ·rw [decide_eq_true q]; rfl
     rw [decide_eq_true q, Bool.or_true]
    rw [this]
    simp
   rw [if_neg hb, swR_is T e n]
   have : (decide ((decAns T a).2.2 ≠ 0) || decide (e < a + (decAns T a).2.1)) = false := by rw [decide_eq_false (fun q => hb (Or.inl q)), decide_eq_false (fun q => hb (Or.inr q))]; rfl
   rw [this]
   simp
  rw [if_neg h, if_neg h, if_neg h]
  simp [swF]
def swA (T : List UInt8) (f : Fu) : Option (List Sp) := if badF T f = true then none else some (spsF T f)
theorem swA_is (T : List UInt8) (f : Fu) : swR T (fEnd f) f.Size.toNat f.Start [] = swA T f := by
 rw [swR_is, List.nil_append]
 rfl
def SwAns (R : Option (List Sp)) (w : World) (e : Ending) (w' : World) : Prop :=
 (R = none → e = .returned (.tuple #[.slice none 0 0, .int .i64 9])) ∧ (∀ l, R = some l → ∃ v, e = .returned (.tuple #[v, .int .i64 0]) ∧ Own w' w.heap.size 85 8 csp v l) ∧ Keeps w w'
theorem SwAns.bad {R : Option (List Sp)} {w w' : World} (h : none = R) (hk : Keeps w w') : SwAns R w (.returned (.tuple #[.slice none 0 0, .int .i64 9])) w' := ⟨fun _ => rfl, fun l q => (by rw [← h] at q; cases q), hk⟩
theorem SwAns.fine {R : Option (List Sp)} {w w' : World} {l : List Sp} {v : Value} (h : some l = R) (ho : Own w' w.heap.size 85 8 csp v l) (hk : Keeps w w') : SwAns R w (.returned (.tuple #[v, .int .i64 0])) w' :=
 ⟨fun q => (by rw [← h] at q; cases q), fun l' q => (by rw [← h] at q; cases q; exact ⟨v, rfl, ho⟩), hk⟩
theorem sweep_any {v : Value} {m : Img} {f : Fu} {w : World} (ht : Tab w) (hs : Siz w) (hm : ImgAt w v m) (h0 : 0 ≤ f.Start) (h1 : 1 ≤ f.Size) (h2 : f.Start + f.Size ≤ m.Text.length) (h3 : m.Text.length ≤ 2000) :
  Calls Tryd.prog 25 #[v, .agg #[.string f.Name, .int .i64 f.Start, .int .i64 f.Size]] w (SwAns (swA m.Text f) w) := by
 obtain ⟨v0, v1, v2, v3, v4, rfl, hT, -⟩ := hm
 obtain ⟨ao, Hb, rfl, b1, b2, b3, b4⟩ := hT
 have hT : Bytes w (.slice ao m.Text.length Hb) m.Text := ⟨ao, Hb, rfl, b1, b2, b3, b4⟩
 obtain ⟨T, Hq⟩ := jE (m.Text)
 rw [← Hq] at hT h2 h3 ⊢
 have HD : Hid (∀ W x, Keeps w W → Calls Tryd.prog 52 #[.slice ao T.length Hb, .int .i64 x] W (DecAns (decAns T x) W)) := jH fun W x hk => decode_any _ T x W (ht.keep hk) (hs.keep hk) (hT.keep hk) jo
 obtain ⟨TL, Hc⟩ := jE (T.length)
 rw [← Hc] at h2 h3
 rw [← Hc] at HD ⊢
 have hR := swA_is T f
 obtain ⟨R, Hr⟩ := jE (swA T f)
 rw [← Hr] at hR ⊢
 unfold fEnd at hR
 obtain ⟨st, Hd⟩ := jE (f.Start)
 obtain ⟨sz, He⟩ := jE (f.Size)
 obtain ⟨nm, Hs⟩ := jE (f.Name)
 rw [← Hd, ← He] at h2 hR
 rw [← Hd] at h0
 rw [← He] at h1
 rw [← Hd, ← He, ← Hs]
 have wE : IntKind.i64.wrap (st + sz) = st + sz := jw
 obtain ⟨HR, HTL⟩ := hid2 hR Hc
 clear b1 b2 b3 b4 hT Hq Hc hR Hr Hd He Hs ht hs
 obtain ⟨en, Hf⟩ := jE (st + sz)
 have wE2 : IntKind.i64.wrap (st + sz) = en := by rw [Hf]; exact wE
 clear wE
 have Hi := jH Hf
 have Hy : 1 ≤ en ∧ en ≤ 2000 := by omega
 clear h2 h3
 rw [← Hf] at HR
 clear Hf
 go_enter Tryd.func25, Tryd.ntmps25
 go_upto_region 1 with fail
 obtain ⟨W, hW, Ht, Hj, Hg, hsW⟩ := two_blocks' w (.cells #[.slice ao TL Hb, v1, v2, v3, v4, .int .i64 m.Entry] 28) (.cells #[.string nm, .int .i64 st, .int .i64 sz] 40)
 rw [← hW]
 have H9 : W.heap.size = w.heap.size + 2 := by rw [hW, sz_alloc, sz_alloc]
 obtain ⟨H4, Hu, HBF, Hv⟩ := hid4 Ht Hj Hg H9
 clear hW Ht
 have m0 := Hj.cell (j := 0) rfl
 have f1 := Hg.cell (j := 1) rfl
 have f2 := Hg.cell (j := 2) rfl
 clear Hj Hg H9
 go_wp2_with fail
 clear m0 f1 f2
 go_loopw [6, 8] (fun s6 s8 wr => ∃ (a : Int) (n : Nat) (H0 : List Sp), s8 = .int .i64 a ∧ Hid (0 ≤ a ∧ en - a ≤ n ∧ (H0 = [] → a < en) ∧ a ≤ en ∧ (H0.length : Int) ≤ a) ∧ Hid (swR T en n a H0 = R) ∧ Hid (Own wr W.heap.size 85 8 csp s6 H0) ∧ Hid (Keeps W wr)) (fun _ s8 _ => (en - intOf s8).toNat)
 case atStart => exact ⟨st, sz.toNat, [], rfl, jH ⟨h0, by have := Hi.out; omega, fun _ => by have := Hi.out; omega, by have := Hi.out; omega, by simpa using h0⟩, HR, jH (Own.nil _ _ _ _ _), jH (Keeps.refl _)⟩
 case round =>
 obtain ⟨a, n, H0, rfl, HB, Hw, HO, HK⟩ := hrel
 obtain ⟨a0, an, Hz, ae, al⟩ := HB.out
 obtain ⟨a6, c6, e6⟩ := own_form' HO.out
 obtain ⟨NA, Hk⟩ := jE (H0.length)
 rw [← Hk] at e6 al
 subst e6
 have H7 := jH Hk
 clear Hk
 have m0 := (Hu.out.keep HK.out).cell (j := 0) rfl
 have ml := (Hu.out.keep HK.out).lt
 by_cases hlt : a < en
 ·have tl : decide (a < en) = true := decide_eq_true hlt
  obtain ⟨n1, rfl⟩ : ∃ n1, n = n1 + 1 := ⟨n - 1, by omega⟩
  have hr := Hw.out
  unfold swR at hr
  rw [if_pos hlt] at hr
  have H2 := @decAns_fine T a
  obtain ⟨⟨⟨K, D, A, B, N, Lg⟩, Z, E⟩, hX⟩ : ∃ X, X = decAns T a := ⟨_, rfl⟩
  have hd := fun W' hk => HD.out W' a hk
  rw [← hX] at hr hd
  by_cases hE : E = 0
  ·have hf := H2 (by rw [← hX]; exact hE)
   have z1 := hf.z1
   have z5 := hf.z5
   rw [← hX] at z1 z5
   dsimp only at hr z1 z5
   subst hE
   unfold DecAns Ins.v insV at hd
   dsimp only at hd
   have t0 : ((0 : Int) != 0) = false := rfl
   have wa : IntKind.i64.wrap (a + Z) = a + Z := jw
   have Hh := jH hd
   clear hd H2 hf hX
   by_cases hov : en < a + Z
   ·rw [if_pos (Or.inr hov)] at hr
    have tv : decide (en < a + Z) = true := decide_eq_true hov
    have H3 := jH hr
    clear hr hov
    go_wp2_with (go_at_call 52; refine (Hh.out _ (H4.out.trans (HK.out.trans ku5))).mono ?_; rintro e wa ⟨rfl, H1⟩)
    refine bodyPost_ret (results_tmp2 rfl _ _ _) rfl ?_
    exact SwAns.bad H3.out (H4.out.trans (HK.out.trans (by repeat (with_reducible (first | assumption | exact Keeps.refl _ | refine Keeps.alloc ?_ _ | refine Keeps.drew ?_)))))
   rw [if_neg (fun q => q.elim (fun q => q rfl) hov)] at hr
   have tv : decide (en < a + Z) = false := decide_eq_false hov
   obtain ⟨H3, HA⟩ := hid2 hr hov
   clear hr hov
   go_wp2_with (first
    | (go_at_call 52; refine (Hh.out _ (H4.out.trans (HK.out.trans ku5))).mono ?_; rintro e wa ⟨rfl, H1⟩)
    | (at_builtin; (refine wpList_pushes jr (.tmp 40) (.tmp 45) 81 jr Tryd.underlying81 info_spot jr jd (base := W.heap.size) (f := csp) (l := H0) jr (by exact HO.out.keep (by repeat (with_reducible (first | assumption | exact Keeps.refl _ | refine Keeps.alloc ?_ _ | refine Keeps.drew ?_)))) [⟨a, Z, ⟨K, D, A, B, N, Lg⟩⟩] _ _ jr jt csp_len csp_one (by simp only [jL, ← H7.out]; omega) (by simp only [jL, ← H7.out]; unfold maxLen; omega) (by have := HK.out.size; have := H1.size; first | omega | (simp only [sz_alloc]; omega)) ?_); intro v7 w7 H5 H6 Hl Hm))
   obtain ⟨HC, HE⟩ := hid2 H5 ((HK.out.trans (show Keeps wr _ from by repeat (with_reducible (first | assumption | exact Keeps.refl _ | refine Keeps.alloc ?_ _ | refine Keeps.drew ?_)))).trans' H6 (Nat.le_refl _))
   clear H5 H6 Hl Hm
   go_roundw
   case rel => exact ⟨a + Z, n1, H0 ++ [⟨a, Z, ⟨K, D, A, B, N, Lg⟩⟩], by go_num, jH ⟨by omega, by omega, fun q => absurd q (by simp), by have := HA.out; omega, by rw [List.length_append, List.length_singleton]; have := H7.out; omega⟩, H3, HC, HE⟩
   case measure => exact jm
  rw [if_pos (Or.inl (by exact hE))] at hr
  unfold DecAns Ins.v insV at hd
  dsimp only at hd
  have t0 : (E != 0) = true := by simpa using hE
  obtain ⟨H3, Hh⟩ := hid2 hr hd
  clear hr hd H2 hX hE
  go_wp2_with (go_at_call 52; refine (Hh.out _ (H4.out.trans (HK.out.trans ku5))).mono ?_; rintro e wa ⟨rfl, H1⟩)
  refine bodyPost_ret (results_tmp2 rfl _ _ _) rfl ?_
  exact SwAns.bad H3.out (H4.out.trans (HK.out.trans (by repeat (with_reducible (first | assumption | exact Keeps.refl _ | refine Keeps.alloc ?_ _ | refine Keeps.drew ?_)))))
 have tl : decide (a < en) = false := decide_eq_false hlt
 have hr : swF H0 = R := by
  have q := Hw.out
  cases n with
  | zero => exact q
  | succ n1 => unfold swR at q; rwa [if_neg hlt] at q
 have hN0 : 0 < NA := by
  have := H7.out
  rcases Nat.eq_zero_or_pos NA with q | q
  ·exact absurd (Hz (List.length_eq_zero_iff.1 jo)) hlt
  exact q
 obtain ⟨J, hJ⟩ := jE (NA - 1)
 have wJ : IntKind.i64.wrap ((NA : Int) - 1) = (J : Int) := jw
 have hJz : (J : Int) < (NA : Int) := by omega
 have hJn : J < NA := by omega
 obtain ⟨ra, HF, e6, -, -, -, Hx⟩ := HO.out.arr csp_len
 injection e6 with e61 e62 e63
 obtain ⟨rb, ro, rfl, hc⟩ := Hx (by have := H7.out; omega)
 subst e61 e63
 obtain ⟨⟨xA, xZ, ⟨xK, xD, Hn, xB, xN, Ho⟩⟩, hX⟩ : ∃ x, x = nth H0 J := ⟨_, rfl⟩
 have g : ∀ j, j < 8 → wr.cell? ⟨rb, ro + J * 8 + j, none⟩ = (csp ⟨xA, xZ, ⟨xK, xD, Hn, xB, xN, Ho⟩⟩)[j]? := fun j hj => by
  rw [hc J j (by have := H7.out; omega) hj, hX]
  have : j < (csp (nth H0 J)).length := by rw [csp_len]; exact hj
  rw [List.getElem?_eq_getElem this]
  show some ((csp (nth H0 J)).getD j undef) = _
  rw [List.getD_eq_getElem?_getD, List.getElem?_eq_getElem this]
  rfl
 have c2 := jc wr rb (ro + J * 8 + 2) xK (g 2 jo)
 have c3 := jc wr rb (ro + J * 8 + 3) xD (g 3 jo)
 have c4 := jc wr rb (ro + J * 8 + 4) Hn (g 4 jo)
 have c5 := jc wr rb (ro + J * 8 + 5) xB (g 5 jo)
 have c6' : wr.cell? ⟨rb, ro + J * 8 + 6, none⟩ = some (.int .i64 xN) := g 6 jo
 have c7 := jv wr rb (ro + J * 8 + 7) (.bool Ho) (g 7 jo)
 have hrb : rb < wr.heap.size := lt_of_cell c2
 have hl : lstB H0 = (!(stN xK) && !decide (xK = 22)) := by unfold lstB; rw [← H7.out, ← hJ, ← hX]
 have H8 := jH (fun W => stops_any xK xD Hn xB xN Ho W)
 unfold insV at H8
 unfold swF at hr
 rw [hl] at hr
 clear hc g hX hl Hx e62 hJ
 by_cases hs1 : stN xK = true
 ·rw [hs1] at hr H8
  have H3 := jH (show some H0 = R from hr)
  clear hr hs1
  go_wp2_with (go_at_call 53; refine (H8.out _).mono ?_; rintro e wa ⟨rfl, H1⟩)
  refine bodyPost_ret (results_tmp2 rfl _ _ _) rfl ?_
  have Ha : Keeps wr wa := Keeps.trans ku5 H1
  exact SwAns.fine H3.out (Own.mono (base := W.heap.size) (HO.out.keep Ha) (by have := Hv.out; omega)) (H4.out.trans (HK.out.trans Ha))
 have Hp : stN xK = false := by simpa using hs1
 rw [Hp] at hr H8
 by_cases h22 : xK = 22
 ·have HG : (xK != 22) = false := by simpa using h22
  rw [decide_eq_true h22] at hr
  have H3 := jH (show some H0 = R from hr)
  clear hr hs1 Hp h22
  go_wp2_with (go_at_call 53; refine (H8.out _).mono ?_; rintro e wa ⟨rfl, H1⟩; have q0 := jc wa wr.heap.size 0 xK ((Blk.keep (Blk.top wr _) H1).cell rfl); have ql := lt_top H1)
  refine bodyPost_ret (results_tmp2 rfl _ _ _) rfl ?_
  have Ha : Keeps wr wa := Keeps.trans ku5 H1
  exact SwAns.fine H3.out (Own.mono (base := W.heap.size) (HO.out.keep Ha) (by have := Hv.out; omega)) (H4.out.trans (HK.out.trans Ha))
 have HG : (xK != 22) = true := by simpa using h22
 rw [decide_eq_false h22] at hr
 have H3 := jH (show none = R from hr)
 clear hr hs1 Hp h22
 go_wp2_with (go_at_call 53; refine (H8.out _).mono ?_; rintro e wa ⟨rfl, H1⟩; have q0 := jc wa wr.heap.size 0 xK ((Blk.keep (Blk.top wr _) H1).cell rfl); have ql := lt_top H1)
 refine bodyPost_ret (results_tmp2 rfl _ _ _) rfl ?_
 exact SwAns.bad H3.out (H4.out.trans (HK.out.trans (Keeps.trans ku5 H1)))
end Go.Proofs.YtgdamggkaklhjaaDoor
