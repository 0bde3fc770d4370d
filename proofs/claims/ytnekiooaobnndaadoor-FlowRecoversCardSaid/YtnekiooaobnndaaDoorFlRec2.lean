/-
 flow.sweep: the instructions of a function, one behind the other, or that there is none somewhere.
-/
import Derived.Test.YtnekiooaobnndaaDoorIsaDec7
import Derived.Test.YtnekiooaobnndaaDoorRegHead
import Derived.Test.YtnekiooaobnndaaDoorIsaLaid
import Derived.OwnWalk
set_option linter.all false
namespace Go.Proofs.YtnekiooaobnndaaDoor
open Go.RowKit BH
set_option maxHeartbeats 100000000
set_option maxRecDepth 100000
theorem info_spot : (Tryd.prog.info? 63).map (fun i => (i.zero, i.size, i.bytes)) = some (some (.agg #[.int .i64 0, .int .i64 0, .int .i64 0, .int .i64 0, .int .i64 0, .int .i64 0, .int .i64 0, .bool false]), 8, 64) := by kernel_rfl
def csp (s : Sp) : List Value := [.int .i64 s.A, .int .i64 s.Z, .int .i64 s.I.K, .int .i64 s.I.D, .int .i64 s.I.A, .int .i64 s.I.B, .int .i64 s.I.N, .bool s.I.Lg]
theorem csp_len (s : Sp) : (csp s).length = 8 := rfl
theorem csp_one (s : Sp) : ∀ u ∈ csp s, u.oneCell' = true := by intro u hu; simp [csp] at hu; rcases hu with rfl | rfl | rfl | rfl | rfl | rfl | rfl | rfl <;> rfl
def swF (acc : List Sp) : Option (List Sp) := if lstB acc = true then none else some acc
def swR (T : List UInt8) (e : Int) : Nat → Int → List Sp → Option (List Sp)
 | 0, _, acc => swF acc
 | n + 1, a, acc => if a < e then (if (decAns T a).2.2 ≠ 0 ∨ e < a + (decAns T a).2.1 then none else swR T e n (a + (decAns T a).2.1) (acc ++ [⟨a, (decAns T a).2.1, (decAns T a).1⟩])) else swF acc
theorem swR_is (T : List UInt8) (e : Int) : ∀ (n : Nat) (a : Int) (acc : List Sp), swR T e n a acc = if (swB T e n a || lstB (acc ++ swS T e n a)) = true then none else some (acc ++ swS T e n a)
 | 0, a, acc => by simp [swR, swB, swS, swF]
 | n + 1, a, acc => by
  unfold swR swB swS
  by_cases h : a < e
  ·rw [if_pos h, if_pos h, if_pos h]
   by_cases hb : (decAns T a).2.2 ≠ 0 ∨ e < a + (decAns T a).2.1
   ·rw [if_pos hb]
    have : (decide ((decAns T a).2.2 ≠ 0) || decide (e < a + (decAns T a).2.1)) = true := by
     rcases hb with q | q
     ·rw [decide_eq_true q]; rfl
     ·rw [decide_eq_true q, Bool.or_true]
    rw [this]
    simp
   ·rw [if_neg hb, swR_is T e n]
    have : (decide ((decAns T a).2.2 ≠ 0) || decide (e < a + (decAns T a).2.1)) = false := by
     rw [decide_eq_false (fun q => hb (Or.inl q)), decide_eq_false (fun q => hb (Or.inr q))]; rfl
    rw [this]
    simp
  ·rw [if_neg h, if_neg h, if_neg h]
   simp [swF]
def swA (T : List UInt8) (f : Fu) : Option (List Sp) := if badF T f = true then none else some (spsF T f)
theorem swA_is (T : List UInt8) (f : Fu) : swR T (fEnd f) f.Size.toNat f.Start [] = swA T f := by
 rw [swR_is, List.nil_append]
 rfl
/-- what flow.sweep answers -/
def SwAns (R : Option (List Sp)) (w : World) (e : Ending) (w' : World) : Prop :=
 (R = none → e = .returned (.tuple #[.slice none 0 0, .int .i64 9])) ∧ (∀ l, R = some l → ∃ v, e = .returned (.tuple #[v, .int .i64 0]) ∧ Own w' w.heap.size 63 8 csp v l) ∧ Keeps w w'
theorem SwAns.bad {R : Option (List Sp)} {w w' : World} (h : none = R) (hk : Keeps w w') : SwAns R w (.returned (.tuple #[.slice none 0 0, .int .i64 9])) w' := ⟨fun _ => rfl, fun l q => (by rw [← h] at q; cases q), hk⟩
theorem SwAns.fine {R : Option (List Sp)} {w w' : World} {l : List Sp} {v : Value} (h : some l = R) (ho : Own w' w.heap.size 63 8 csp v l) (hk : Keeps w w') : SwAns R w (.returned (.tuple #[v, .int .i64 0])) w' :=
 ⟨fun q => (by rw [← h] at q; cases q), fun l' q => (by rw [← h] at q; cases q; exact ⟨v, rfl, ho⟩), hk⟩
theorem sweep_any {v : Value} {m : Img} {f : Fu} {w : World} (ht : Tab w) (hs : Siz w) (hm : ImgAt w v m) (h0 : 0 ≤ f.Start) (h1 : 1 ≤ f.Size) (h2 : f.Start + f.Size ≤ m.Text.length) (h3 : m.Text.length ≤ 2000) :
  Calls Tryd.prog 15 #[v, .agg #[.string f.Name, .int .i64 f.Start, .int .i64 f.Size]] w (SwAns (swA m.Text f) w) := by
 obtain ⟨v0, v1, v2, v3, v4, rfl, hT, -⟩ := hm
 obtain ⟨ao, cap, rfl, b1, b2, b3, b4⟩ := hT
 have hT : Bytes w (.slice ao m.Text.length cap) m.Text := ⟨ao, cap, rfl, b1, b2, b3, b4⟩
 obtain ⟨T, hTT⟩ : ∃ T, T = m.Text := ⟨_, rfl⟩
 rw [← hTT] at hT h2 h3 ⊢
 have HD : Hid (∀ W x, Keeps w W → Calls Tryd.prog 42 #[.slice ao T.length cap, .int .i64 x] W (DecAns (decAns T x) W)) := Lib.hid fun W x hk => decode_any _ T x W (ht.keep hk) (hs.keep hk) (hT.keep hk) (by omega)
 obtain ⟨TL, hTL⟩ : ∃ TL, TL = T.length := ⟨_, rfl⟩
 rw [← hTL] at h2 h3
 rw [← hTL] at HD ⊢
 have hR := swA_is T f
 obtain ⟨R, hRR⟩ : ∃ R, R = swA T f := ⟨_, rfl⟩
 rw [← hRR] at hR ⊢
 unfold fEnd at hR
 obtain ⟨st, hst⟩ : ∃ st, st = f.Start := ⟨_, rfl⟩
 obtain ⟨sz, hsz⟩ : ∃ sz, sz = f.Size := ⟨_, rfl⟩
 obtain ⟨nm, hnm⟩ : ∃ nm, nm = f.Name := ⟨_, rfl⟩
 rw [← hst, ← hsz] at h2 hR
 rw [← hst] at h0
 rw [← hsz] at h1
 rw [← hst, ← hsz, ← hnm]
 have wE : IntKind.i64.wrap (st + sz) = st + sz := by rw [IntKind.wrap_i64]; omega
 have HR := Lib.hid hR
 have HTL := Lib.hid hTL
 clear b1 b2 b3 b4 hT hTT hTL hR hRR hst hsz hnm ht hs
 obtain ⟨en, hen⟩ : ∃ en, en = st + sz := ⟨_, rfl⟩
 have wE2 : IntKind.i64.wrap (st + sz) = en := by rw [hen]; exact wE
 clear wE
 have HEN := Lib.hid hen
 have hen2 : 1 ≤ en ∧ en ≤ 2000 := by omega
 clear h2 h3
 rw [← hen] at HR
 clear hen
 go_enter Tryd.func15, Tryd.ntmps15
 go_upto_region 1 with fail
 obtain ⟨W, hW, hkW, hbM, hbF, hsW⟩ := two_blocks' w (.cells #[.slice ao TL cap, v1, v2, v3, v4, .int .i64 m.Entry] 28) (.cells #[.string nm, .int .i64 st, .int .i64 sz] 47)
 rw [← hW]
 have hszW : W.heap.size = w.heap.size + 2 := by rw [hW, sz_alloc, sz_alloc]
 have HW1 := Lib.hid hkW
 have HBM := Lib.hid hbM
 have HBF := Lib.hid hbF
 have HSZ := Lib.hid hszW
 clear hW hkW
 have m0 := hbM.cell (j := 0) rfl
 have f1 := hbF.cell (j := 1) rfl
 have f2 := hbF.cell (j := 2) rfl
 clear hbM hbF hszW
 go_wp2_with fail
 clear m0 f1 f2
 go_loopw [6, 8] (fun s6 s8 wr => ∃ (a : Int) (n : Nat) (acc : List Sp), s8 = .int .i64 a ∧ Hid (0 ≤ a ∧ en - a ≤ n ∧ (acc = [] → a < en) ∧ a ≤ en ∧ (acc.length : Int) ≤ a) ∧ Hid (swR T en n a acc = R) ∧ Hid (Own wr W.heap.size 63 8 csp s6 acc) ∧ Hid (Keeps W wr)) (fun _ s8 _ => (en - intOf s8).toNat)
 case atStart => exact ⟨st, sz.toNat, [], rfl, Lib.hid ⟨h0, by have := HEN.out; omega, fun _ => by have := HEN.out; omega, by have := HEN.out; omega, by simpa using h0⟩, HR, Lib.hid (Own.nil _ _ _ _ _), Lib.hid (Keeps.refl _)⟩
 case round =>
  obtain ⟨a, n, acc, rfl, HB, HRR, HO, HK⟩ := hrel
  obtain ⟨a0, an, ane, ae, al⟩ := HB.out
  obtain ⟨a6, c6, e6⟩ := own_form' HO.out
  obtain ⟨NA, hNA⟩ : ∃ NA, NA = acc.length := ⟨_, rfl⟩
  rw [← hNA] at e6 al
  subst e6
  have HNA := Lib.hid hNA
  clear hNA
  have m0 := (HBM.out.keep HK.out).cell (j := 0) rfl
  have ml := (HBM.out.keep HK.out).lt
  by_cases hlt : a < en
  ·have tl : decide (a < en) = true := decide_eq_true hlt
   obtain ⟨n1, rfl⟩ : ∃ n1, n = n1 + 1 := ⟨n - 1, by omega⟩
   have hr := HRR.out
   unfold swR at hr
   rw [if_pos hlt] at hr
   have hfine := @decAns_fine T a
   obtain ⟨⟨⟨K, D, A, B, N, Lg⟩, Z, E⟩, hX⟩ : ∃ X, X = decAns T a := ⟨_, rfl⟩
   have hd := fun W' hk => HD.out W' a hk
   rw [← hX] at hr hd
   by_cases hE : E = 0
   ·have hf := hfine (by rw [← hX]; exact hE)
    have z1 := hf.z1
    have z5 := hf.z5
    rw [← hX] at z1 z5
    dsimp only at hr z1 z5
    subst hE
    unfold DecAns Ins.v insV at hd
    dsimp only at hd
    have t0 : ((0 : Int) != 0) = false := rfl
    have wa : IntKind.i64.wrap (a + Z) = a + Z := by rw [IntKind.wrap_i64]; omega
    have HDD := Lib.hid hd
    clear hd hfine hf hX
    by_cases hov : en < a + Z
    ·rw [if_pos (Or.inr hov)] at hr
     have tv : decide (en < a + Z) = true := decide_eq_true hov
     have HRE := Lib.hid hr
     clear hr hov
     go_wp2_with (go_at_call 42; refine (HDD.out _ (HW1.out.trans (HK.out.trans (by repeat (with_reducible (first | assumption | exact Keeps.refl _ | refine Keeps.alloc ?_ _ | refine Keeps.drew ?_ | refine Keeps.drewN ?_ _)))))).mono ?_; rintro e wa ⟨rfl, hka⟩)
     refine bodyPost_ret (results_tmp2 rfl _ _ _) rfl ?_
     exact SwAns.bad HRE.out (HW1.out.trans (HK.out.trans (by repeat (with_reducible (first | assumption | exact Keeps.refl _ | refine Keeps.alloc ?_ _ | refine Keeps.drew ?_)))))
    ·rw [if_neg (fun q => q.elim (fun q => q rfl) hov)] at hr
     have tv : decide (en < a + Z) = false := decide_eq_false hov
     have HRE := Lib.hid hr
     have HOV := Lib.hid hov
     clear hr hov
     go_wp2_with (first
      | (go_at_call 42; refine (HDD.out _ (HW1.out.trans (HK.out.trans (by repeat (with_reducible (first | assumption | exact Keeps.refl _ | refine Keeps.alloc ?_ _ | refine Keeps.drew ?_ | refine Keeps.drewN ?_ _)))))).mono ?_; rintro e wa ⟨rfl, hka⟩)
      | (at_builtin; (refine wpList_pushes (by rfl) (.tmp 40) (.tmp 45) 57 (by rfl) Tryd.underlying57 info_spot (by rfl) (by decide) (base := W.heap.size) (f := csp) (l := acc) (by rfl) (by exact HO.out.keep (by repeat (with_reducible (first | assumption | exact Keeps.refl _ | refine Keeps.alloc ?_ _ | refine Keeps.drew ?_)))) [⟨a, Z, ⟨K, D, A, B, N, Lg⟩⟩] _ _ (by rfl) (by exact Blk.top' _ _ (by first | rfl | simp)) csp_len csp_one (by simp only [List.length_cons, List.length_nil, ← HNA.out]; omega) (by simp only [List.length_cons, List.length_nil, ← HNA.out]; unfold maxLen; omega) (by have := HK.out.size; have := hka.size; first | omega | (simp only [sz_alloc]; omega)) ?_); intro v7 w7 hown7 hbel7 hgr7 hfr7))
     have HO7 := Lib.hid hown7
     have HK7 := Lib.hid ((HK.out.trans (show Keeps wr _ from by repeat (with_reducible (first | assumption | exact Keeps.refl _ | refine Keeps.alloc ?_ _ | refine Keeps.drew ?_)))).trans' hbel7 (Nat.le_refl _))
     clear hown7 hbel7 hgr7 hfr7
     go_roundw
     case rel => exact ⟨a + Z, n1, acc ++ [⟨a, Z, ⟨K, D, A, B, N, Lg⟩⟩], by go_num, Lib.hid ⟨by omega, by omega, fun q => absurd q (by simp), by have := HOV.out; omega, by rw [List.length_append, List.length_singleton]; have := HNA.out; omega⟩, HRE, HO7, HK7⟩
     case measure => simp [intOf]; omega
   ·rw [if_pos (Or.inl (by exact hE))] at hr
    unfold DecAns Ins.v insV at hd
    dsimp only at hd
    have t0 : (E != 0) = true := by simpa using hE
    have HRE := Lib.hid hr
    have HDD := Lib.hid hd
    clear hr hd hfine hX hE
    go_wp2_with (go_at_call 42; refine (HDD.out _ (HW1.out.trans (HK.out.trans (by repeat (with_reducible (first | assumption | exact Keeps.refl _ | refine Keeps.alloc ?_ _ | refine Keeps.drew ?_ | refine Keeps.drewN ?_ _)))))).mono ?_; rintro e wa ⟨rfl, hka⟩)
    refine bodyPost_ret (results_tmp2 rfl _ _ _) rfl ?_
    exact SwAns.bad HRE.out (HW1.out.trans (HK.out.trans (by repeat (with_reducible (first | assumption | exact Keeps.refl _ | refine Keeps.alloc ?_ _ | refine Keeps.drew ?_)))))
  ·have tl : decide (a < en) = false := decide_eq_false hlt
   have hr : swF acc = R := by
    have q := HRR.out
    cases n with
    | zero => exact q
    | succ n1 => unfold swR at q; rwa [if_neg hlt] at q
   have hN0 : 0 < NA := by
    have := HNA.out
    rcases Nat.eq_zero_or_pos NA with q | q
    ·exact absurd (ane (List.length_eq_zero_iff.1 (by omega))) hlt
    ·exact q
   obtain ⟨J, hJ⟩ : ∃ J, J = NA - 1 := ⟨_, rfl⟩
   have wJ : IntKind.i64.wrap ((NA : Int) - 1) = (J : Int) := by rw [IntKind.wrap_i64]; omega
   have hJz : (J : Int) < (NA : Int) := by omega
   have hJn : J < NA := by omega
   obtain ⟨ra, rcap, e6, -, -, -, hrc⟩ := HO.out.arr csp_len
   injection e6 with e61 e62 e63
   obtain ⟨rb, ro, rfl, hc⟩ := hrc (by have := HNA.out; omega)
   subst e61 e63
   obtain ⟨⟨xA, xZ, ⟨xK, xD, xA2, xB, xN, xLg⟩⟩, hX⟩ : ∃ x, x = nth acc J := ⟨_, rfl⟩
   have g : ∀ j, j < 8 → wr.cell? ⟨rb, ro + J * 8 + j, none⟩ = (csp ⟨xA, xZ, ⟨xK, xD, xA2, xB, xN, xLg⟩⟩)[j]? := fun j hj => by
    rw [hc J j (by have := HNA.out; omega) hj, hX]
    have : j < (csp (nth acc J)).length := by rw [csp_len]; exact hj
    rw [List.getElem?_eq_getElem this]
    show some ((csp (nth acc J)).getD j undef) = _
    rw [List.getD_eq_getElem?_getD, List.getElem?_eq_getElem this]
    rfl
   have c2 : wr.cell? ⟨rb, ro + J * 8 + 2, none⟩ = some (.int .i64 xK) := g 2 (by omega)
   have c3 : wr.cell? ⟨rb, ro + J * 8 + 3, none⟩ = some (.int .i64 xD) := g 3 (by omega)
   have c4 : wr.cell? ⟨rb, ro + J * 8 + 4, none⟩ = some (.int .i64 xA2) := g 4 (by omega)
   have c5 : wr.cell? ⟨rb, ro + J * 8 + 5, none⟩ = some (.int .i64 xB) := g 5 (by omega)
   have c6' : wr.cell? ⟨rb, ro + J * 8 + 6, none⟩ = some (.int .i64 xN) := g 6 (by omega)
   have c7 : wr.cell? ⟨rb, ro + J * 8 + 7, none⟩ = some (.bool xLg) := g 7 (by omega)
   have hrb : rb < wr.heap.size := lt_of_cell c2
   have hl : lstB acc = (!(stN xK) && !decide (xK = 22)) := by unfold lstB; rw [← HNA.out, ← hJ, ← hX]
   have HST := Lib.hid (fun W => stops_any xK xD xA2 xB xN xLg W)
   unfold insV at HST
   unfold swF at hr
   rw [hl] at hr
   clear hc g hX hl hrc e62 hJ
   by_cases hs1 : stN xK = true
   ·rw [hs1] at hr HST
    have HRE := Lib.hid (show some acc = R from hr)
    clear hr hs1
    go_wp2_with (go_at_call 43; refine (HST.out _).mono ?_; rintro e wa ⟨rfl, hka⟩)
    refine bodyPost_ret (results_tmp2 rfl _ _ _) rfl ?_
    have hkr : Keeps wr wa := Keeps.trans (by repeat (with_reducible (first | assumption | exact Keeps.refl _ | refine Keeps.alloc ?_ _ | refine Keeps.drew ?_ | refine Keeps.drewN ?_ _))) hka
    exact SwAns.fine HRE.out (Own.mono (base := W.heap.size) (HO.out.keep hkr) (by have := HSZ.out; omega)) (HW1.out.trans (HK.out.trans hkr))
   ·have hs0 : stN xK = false := by simpa using hs1
    rw [hs0] at hr HST
    by_cases h22 : xK = 22
    ·have t22 : (xK != 22) = false := by simpa using h22
     rw [decide_eq_true h22] at hr
     have HRE := Lib.hid (show some acc = R from hr)
     clear hr hs1 hs0 h22
     go_wp2_with (go_at_call 43; refine (HST.out _).mono ?_; rintro e wa ⟨rfl, hka⟩; have q0 : wa.cell? ⟨wr.heap.size, 0, none⟩ = some (.int .i64 xK) := (Blk.keep (Blk.top wr _) hka).cell rfl; have ql := lt_top hka)
     refine bodyPost_ret (results_tmp2 rfl _ _ _) rfl ?_
     have hkr : Keeps wr wa := Keeps.trans (by repeat (with_reducible (first | assumption | exact Keeps.refl _ | refine Keeps.alloc ?_ _ | refine Keeps.drew ?_ | refine Keeps.drewN ?_ _))) hka
     exact SwAns.fine HRE.out (Own.mono (base := W.heap.size) (HO.out.keep hkr) (by have := HSZ.out; omega)) (HW1.out.trans (HK.out.trans hkr))
    ·have t22 : (xK != 22) = true := by simpa using h22
     rw [decide_eq_false h22] at hr
     have HRE := Lib.hid (show none = R from hr)
     clear hr hs1 hs0 h22
     go_wp2_with (go_at_call 43; refine (HST.out _).mono ?_; rintro e wa ⟨rfl, hka⟩; have q0 : wa.cell? ⟨wr.heap.size, 0, none⟩ = some (.int .i64 xK) := (Blk.keep (Blk.top wr _) hka).cell rfl; have ql := lt_top hka)
     refine bodyPost_ret (results_tmp2 rfl _ _ _) rfl ?_
     exact SwAns.bad HRE.out (HW1.out.trans (HK.out.trans (Keeps.trans (by repeat (with_reducible (first | assumption | exact Keeps.refl _ | refine Keeps.alloc ?_ _ | refine Keeps.drew ?_ | refine Keeps.drewN ?_ _))) hka)))
end Go.Proofs.YtnekiooaobnndaaDoor
