/-
The document's ImageCopy: an image that reads the same, in m
-/
import Derived.Test.YtgdamggkaklhjaaDoorNumsCopy
import Derived.Deep.DeepCutAuto
set_option linter.all false
namespace Go.Proofs.YtgdamggkaklhjaaDoor
open Go.RowKit BH
set_option maxHeartbeats 4000000
set_option maxRecDepth 100000

def CopyHead (m : Img) (W : World) (s3 : Value) (wx : World) : Prop :=
 ∃ (g : Nat) (a : Option Addr) (c : Nat) (S : Nat → Prop), s3 = .pointer (some ⟨g, 0, none⟩) ∧
  Bld W.heap.size W g 28 (fun _ => False) S (fun w => Ints w (.slice a m.Data.length c) m.Data) 5 1 cb #[.slice none 0 0, .slice none 0 0, .slice none 0 0, .slice a m.Data.length c, .slice none 0 0, .int .i64 m.Entry] (.slice none 0 0) ([] : List UInt8) wx
theorem copyHead_of {m : Img} {W wx : World} {g : Nat} {a : Option Addr} {c : Nat} (hk : Keeps W wx) (hg : W.heap.size ≤ g) (hB : Blk wx g (.cells #[.slice none 0 0, .slice none 0 0, .slice none 0 0, .slice a m.Data.length c, .slice none 0 0, .int .i64 m.Entry] 28))
  (ho : Own wx W.heap.size 3 1 ci (.slice a m.Data.length c) m.Data) (hne : (Value.slice a m.Data.length c).ownBlock ≠ some g) : CopyHead m W (.pointer (some ⟨g, 0, none⟩)) wx :=
 ⟨g, a, c, _, rfl, ⟨hk, hg, hk.size, hB, ho.foot.imp fun _ h => Own.ints h, fun b hb => ho.row b hb, Own.nil _ _ _ _ _, hne, (fun e => by cases e), (fun _ _ e => by cases e), (fun _ h => h.elim), (fun h => h), (fun _ h => h.elim), (fun _ h => h.elim)⟩⟩
structure ImgSmall (m : Img) : Prop where
 text : m.Text.length ≤ 140737488355328
 funs : m.Funcs.length * 32 ≤ 140737488355328
 tabs : ∀ t, t ∈ m.Tables → t.length * 8 ≤ 140737488355328
 tabsN : m.Tables.length * 24 ≤ 140737488355328
 data : m.Data.length * 8 ≤ 140737488355328
 lines : m.Lines.length * 16 ≤ 140737488355328
theorem nth_in {α : Type} [Inhabited α] {s : List α} {j : Nat} (h : j < s.length) : nth s j ∈ s := by rw [nth_eq _ _ h]; exact List.getElem_mem h
theorem imageCopy_any (v : Value) (m : Img) (w : World) (hv : ImgAt w v m) (hr : ImgSmall m) :
  Calls Tryd.prog 4 #[v] w (Gives (fun v' w' => ImgAt w' v' m) w) := by
 obtain ⟨v0, v1, v2, v3, v4, rfl, ⟨HO, HP, rfl, t01, Kk, -, HQ⟩, ⟨HR, HU, rfl, t11, Kl, -, HV⟩, ⟨tv, ⟨HX, HY, rfl, t21, Km, -, K0⟩, rv⟩, a3, ⟨K1, K2, rfl, t41, Kn, -, K3⟩⟩ := hv
 unfold maxLen at Kk Kl Km Kn
 obtain ⟨r0, r1, r2, r2n, r3, r4⟩ := hr
 obtain ⟨Hx, Hy, e3⟩ := Arr.form a3
 rw [e3] at a3 ⊢
 obtain ⟨W, hW, Hb, K4, K5, K6⟩ : ∃ W : World, W = (w.alloc (.cells #[.slice HO m.Text.length HP, .slice HR m.Funcs.length HU, .slice HX m.Tables.length HY, .slice Hx m.Data.length Hy, .slice K1 m.Lines.length K2, .int .i64 m.Entry] 28)).alloc (.cells #[.slice none 0 0, .slice none 0 0, .slice none 0 0, .slice none 0 0, .slice none 0 0, .int .i64 0] 28) ∧ Keeps w W ∧ Blk W w.heap.size (.cells #[.slice HO m.Text.length HP, .slice HR m.Funcs.length HU, .slice HX m.Tables.length HY, .slice Hx m.Data.length Hy, .slice K1 m.Lines.length K2, .int .i64 m.Entry] 28) ∧ Blk W (w.heap.size + 1) (.cells #[.slice none 0 0, .slice none 0 0, .slice none 0 0, .slice none 0 0, .slice none 0 0, .int .i64 0] 28) ∧ W.heap.size = w.heap.size + 2 :=
  ⟨_, rfl, ((Keeps.refl w).alloc _).alloc _, (Blk.top _ _).keep ((Keeps.refl _).alloc _), Blk.top' _ _ (by rw [sz_alloc]), by rw [sz_alloc, sz_alloc]⟩
 obtain ⟨HW, K7, K8⟩ := hid3 hW K6 (Arr.keep a3 Hb)
 obtain ⟨i0, i1, i2, i3, i4, i5⟩ := K4.k6
 have Ko := jH K5
 clear hW K6 a3 e3 K4 K5
 go_enter Tryd.func4, Tryd.ntmps4
 go_upto_region 1 with fail
 rw [← HW.out]
 clear HW
 go_cut [3] (fun s3 wx => CopyHead m W s3 wx)
 case first =>
  go_region_held3 (fun w' => w'.cell? ⟨w.heap.size, 5, none⟩ = some (.int .i64 m.Entry) ∧ w'.cell? ⟨w.heap.size, 3, none⟩ = some (.slice Hx m.Data.length Hy))
   (exact ⟨Keeps.cell (by repeat (with_reducible (first | assumption | exact Keeps.refl _ | refine Keeps.alloc ?_ _ | refine Keeps.drew ?_ | refine Keeps.drewN ?_ _ | refine Keeps.setCell ?_ (by (try dsimp only); first | omega | (simp only [sz_alloc]; omega) | (simp only [sz_drew]; omega) | (simp only [sz_alloc, sz_drew]; omega)) _ | refine Keeps.trans ?_ (by assumption)))) i5, Keeps.cell (by repeat (with_reducible (first | assumption | exact Keeps.refl _ | refine Keeps.alloc ?_ _ | refine Keeps.drew ?_ | refine Keeps.drewN ?_ _ | refine Keeps.setCell ?_ (by (try dsimp only); first | omega | (simp only [sz_alloc]; omega) | (simp only [sz_drew]; omega) | (simp only [sz_alloc, sz_drew]; omega)) _ | refine Keeps.trans ?_ (by assumption)))) i3⟩)
   ((go_at_call 9; refine (numsCopy_any _ m.Data _ (Arr.keep K8.out ku5) r3).mono ?_; rintro e W1 ⟨x3, rfl, Hs, H9⟩; obtain ⟨ax, cx, rfl⟩ := own_form' Hs; (repeat' (first | (with_reducible replace H9 := Keeps.undrew H9) | (with_reducible replace H9 := Keeps.undrewN H9))); simp only [sz_drew] at Hs; have Hz := jH Hs; have Ho := jH H9; clear Hs; obtain ⟨hc1, hf1⟩ := bcell H9; have hz1 := H9.size; (first | (with_reducible have Kp := lt_top H9; (try simp only [sz_drew, sz_drewN] at Kp)) | skip); (first | (with_reducible have K9 := bcell_top H9; (try simp only [sz_drew, sz_drewN] at K9); obtain ⟨ht1, hu1⟩ := K9) | skip)))
  ·go_wp2_with fail
   go_meet
   case rel =>
   exact copyHead_of (Ho.out.alloc _) Ho.out.size (Blk.top _ _) (Hz.out.keep ((Keeps.refl _).alloc _)) (fun e => absurd (own_lt' Hz.out e) (Nat.lt_irrefl _))
  go_wp2_with fail
  go_meet
  case rel =>
  have hk := ((Keeps.refl W).alloc _).trans Ho.out
  have hb := (Blk.top W _).keep Ho.out
  have ho := Hz.out
  rw [sz_alloc] at ho
  have Ka : (Value.slice ax m.Data.length cx).ownBlock ≠ some W.heap.size := fun e => absurd (ho.row _ e) jo
  have hg := grown_trans (grown_trans (grown_trans (grown_trans (grown_trans (grown_setCell W1 W.heap.size 0 (.slice none 0 0)) (grown_setCell _ W.heap.size 1 (.slice none 0 0))) (grown_setCell _ W.heap.size 2 (.slice none 0 0))) (grown_setCell _ W.heap.size 3 (.slice ax m.Data.length cx))) (grown_setCell _ W.heap.size 4 (.slice none 0 0))) (grown_setCell _ W.heap.size 5 (.int .i64 m.Entry))
  refine copyHead_of (Below.grown hk hg hk.size (by intro q e; cases e; exact Nat.le_refl _)) (Nat.le_refl _) ?_ (Own.mono (ho.other hg fun q hq e => Ka (by rw [hq, e])) jo) Ka
  exact (((((hb.set 0 _).set 1 _).set 2 _).set 3 _).set 4 _).set 5 _
 case rest =>
 obtain ⟨g, ax, cx, S, rfl, HA⟩ := hcut
 clear K8
 obtain ⟨S0, Kb⟩ : ∃ S0 : Nat → Prop, S0 = S := ⟨_, rfl⟩
 obtain ⟨F0, HC⟩ : ∃ F0 : World → Prop, F0 = (fun w => Ints w (.slice ax m.Data.length cx) m.Data) := ⟨_, rfl⟩
 rw [← Kb, ← HC] at HA
 obtain ⟨Kq, He⟩ := hid2 HC HA
 clear HA Kb HC
 go_wp2_with fail
 go_loopw [4] (fun s wr => ∃ (k : Nat) (x : Value), k ≤ m.Text.length ∧ s = .int .i64 k ∧ Bld W.heap.size W g 28 (fun _ => False) S0 F0 5 1 cb #[x, .slice none 0 0, .slice none 0 0, .slice ax m.Data.length cx, .slice none 0 0, .int .i64 m.Entry] x (m.Text.take k) wr) (fun s _ => m.Text.length - (intOf s).toNat)
 case atStart => exact ⟨0, _, Nat.zero_le _, rfl, He.out⟩
 case round =>
 obtain ⟨k, x, hk, rfl, hb⟩ := hrel
 have H6 : Keeps W wr := hb.keep
 have Ht := H6.size
 have j0 := H6.cell i0
 have H1 : (m.Text.take k).length = k := by simp; omega
 obtain ⟨H7, H8, e7⟩ := own_form' hb.own
 rw [H1] at e7
 subst e7
 have g0 := hb.blk.cell (j := 0) rfl
 have f0 := hb.blk.thawed 0
 have Hu := hb.blk.lt
 have HB := jH hb
 clear hb
 by_cases hlt : k < m.Text.length
 ·obtain ⟨b, Hc, rfl, hc⟩ := HQ jo
  have c0 := jv wr b (Hc + k) (.int .u8 ((nth m.Text k).toNat : Int)) ((Hb.trans H6).cell (by simpa [Fu.c, Ln.c] using hc k 0 hlt jo))
  have HS := jH (take_succ_nth m.Text k hlt)
  clear hc HQ
  go_wp2_with fail
  go_region_law ((refine step_push jr (.tmp 23) (.tmp 29) 22 jr Tryd.underlying22 info_u8 jr jd (base := W.heap.size) (f := cb) (l := m.Text.take k) jr (by exact HB.out.own.keep jk) (nth m.Text k) _ _ jr jt cb_len cb_one (by rw [H1]; omega) (by rw [H1]; unfold maxLen; omega) jz ?_; intro v7 w7 H0 H3 H2 H4; obtain ⟨a7, c7, rfl⟩ := own_form' H0; have H5 := Blk.grown (Blk.keep HB.out.blk jk) H2 (fun e => HB.out.vg e.symm); have HD := H5.cell (j := 0) rfl; have HE := H5.thawed 0; have HF := H5.lt; have HG := jH H5; have Hf := jH H0; have Hg := jH H2; have Hh := jH H4; clear H5 H0 H3 H2 H4))
  all_goals
   go_wp2_with fail
   go_roundw
   case rel =>
    have hp := Bld.push HB.out ku5 Hf.out Hg.out Hh.out 0
    rw [← HS.out, show (m.Text.take (k + 1)).length = k + 1 by simp; omega] at hp
    exact ⟨k + 1, _, by omega, by go_num, hp⟩
   case measure => exact jm
 obtain rfl : k = m.Text.length := by omega
 rw [List.take_length] at HB
 clear g0 f0
 have Ha := (HB.out.next (β := Fu) (e' := 40) (k' := 3) (f' := cfu))
 obtain ⟨S1, Kc⟩ : ∃ Sx : Nat → Prop, Sx = (fun b => S0 b ∨ (Value.slice H7 m.Text.length H8).ownBlock = some b) := ⟨_, rfl⟩
 obtain ⟨F1, HH⟩ : ∃ Fx : World → Prop, Fx = (fun w => F0 w ∧ Own w W.heap.size 5 1 cb (.slice H7 m.Text.length H8) m.Text) := ⟨_, rfl⟩
 rw [← Kc, ← HH] at Ha
 obtain ⟨Ks, He⟩ := hid2 HH Ha
 clear Ha Kc HH HB
 obtain ⟨Hi, rfl⟩ := jE H7
 obtain ⟨Hj, rfl⟩ := jE H8
 go_wp2_with fail
 go_loopw [5] (fun s wr => ∃ (k : Nat) (x : Value), k ≤ m.Funcs.length ∧ s = .int .i64 k ∧ Bld W.heap.size W g 28 (fun _ => False) S1 F1 40 3 cfu #[.slice Hi m.Text.length Hj, x, .slice none 0 0, .slice ax m.Data.length cx, .slice none 0 0, .int .i64 m.Entry] x (m.Funcs.take k) wr) (fun s _ => m.Funcs.length - (intOf s).toNat)
 case atStart => exact ⟨0, _, Nat.zero_le _, rfl, He.out⟩
 case round =>
 obtain ⟨k, x, hk, rfl, hb⟩ := hrel
 have H6 : Keeps W wr := hb.keep
 have Ht := H6.size
 have j1 := H6.cell i1
 have H1 : (m.Funcs.take k).length = k := by simp; omega
 obtain ⟨H7, H8, e7⟩ := own_form' hb.own
 rw [H1] at e7
 subst e7
 have g1 := hb.blk.cell (j := 1) rfl
 have f1 := hb.blk.thawed 1
 have Hu := hb.blk.lt
 have HB := jH hb
 clear hb
 by_cases hlt : k < m.Funcs.length
 ·obtain ⟨b, Hc, rfl, hc⟩ := HV jo
  have c0 := jv wr b (Hc + k * 3) (.string (nth m.Funcs k).Name) ((Hb.trans H6).cell (by simpa [Fu.c, Ln.c] using hc k 0 hlt jo))
  have c1 := jc wr b (Hc + k * 3 + 1) ((nth m.Funcs k).Start) ((Hb.trans H6).cell (by simpa [Fu.c, Ln.c] using hc k 1 hlt jo))
  have c2 := jc wr b (Hc + k * 3 + 2) ((nth m.Funcs k).Size) ((Hb.trans H6).cell (by simpa [Fu.c, Ln.c] using hc k 2 hlt jo))
  have HS := jH (take_succ_nth m.Funcs k hlt)
  clear hc HV
  go_wp2_with fail
  go_region_law ((refine step_push jr (.tmp 40) (.tmp 46) 23 jr Tryd.underlying23 info_fun jr jd (base := W.heap.size) (f := cfu) (l := m.Funcs.take k) jr (by exact HB.out.own.keep jk) (nth m.Funcs k) _ _ jr jt cfu_len cfu_one (by rw [H1]; omega) (by rw [H1]; unfold maxLen; omega) jz ?_; intro v7 w7 H0 H3 H2 H4; obtain ⟨a7, c7, rfl⟩ := own_form' H0; have H5 := Blk.grown (Blk.keep HB.out.blk jk) H2 (fun e => HB.out.vg e.symm); have HD := H5.cell (j := 1) rfl; have HE := H5.thawed 1; have HF := H5.lt; have HG := jH H5; have Hf := jH H0; have Hg := jH H2; have Hh := jH H4; clear H5 H0 H3 H2 H4))
  all_goals
   go_wp2_with fail
   go_roundw
   case rel =>
    have hp := Bld.push HB.out ku5 Hf.out Hg.out Hh.out 1
    rw [← HS.out, show (m.Funcs.take (k + 1)).length = k + 1 by simp; omega] at hp
    exact ⟨k + 1, _, by omega, by go_num, hp⟩
   case measure => exact jm
 obtain rfl : k = m.Funcs.length := by omega
 rw [List.take_length] at HB
 clear g1 f1
 have Ha := (HB.out.next (β := Sle) (e' := 25) (k' := 1) (f' := sle))
 obtain ⟨S2, Kd⟩ : ∃ Sx : Nat → Prop, Sx = (fun b => S1 b ∨ (Value.slice H7 m.Funcs.length H8).ownBlock = some b) := ⟨_, rfl⟩
 obtain ⟨F2, HJ⟩ : ∃ Fx : World → Prop, Fx = (fun w => F1 w ∧ Own w W.heap.size 40 3 cfu (.slice H7 m.Funcs.length H8) m.Funcs) := ⟨_, rfl⟩
 rw [← Kd, ← HJ] at Ha
 obtain ⟨Kt, He⟩ := hid2 HJ Ha
 clear Ha Kd HJ HB
 obtain ⟨Hm, rfl⟩ := jE H7
 obtain ⟨Hn, rfl⟩ := jE H8
 go_wp2_with fail
 go_loopw [6] (fun s wr => ∃ (k : Nat) (x : Value) (vs : List Sle) (S' : Nat → Prop), k ≤ m.Tables.length ∧ s = .int .i64 k ∧ Bld W.heap.size W g 28 (fun _ => False) S' (fun w => F2 w ∧ RowsAt vs (m.Tables.take k) w) 25 1 sle #[.slice Hi m.Text.length Hj, .slice Hm m.Funcs.length Hn, x, .slice ax m.Data.length cx, .slice none 0 0, .int .i64 m.Entry] x vs wr) (fun s _ => m.Tables.length - (intOf s).toNat)
 case atStart => exact ⟨0, _, [], _, Nat.zero_le _, rfl, He.out.weak fun w h => ⟨h, rowsAt_nil w⟩⟩
 case round =>
 obtain ⟨k, x, vs, S', hk, rfl, hb⟩ := hrel
 have H6 : Keeps W wr := hb.keep
 have Ht := H6.size
 have j2 := H6.cell i2
 have H1 : vs.length = k := by rw [hb.foot.here.2.1]; simp; omega
 obtain ⟨H7, H8, e7⟩ := own_form' hb.own
 rw [H1] at e7
 subst e7
 have g2 := hb.blk.cell (j := 2) rfl
 have f2 := hb.blk.thawed 2
 have Hu := hb.blk.lt
 have HB := jH hb
 clear hb
 by_cases hlt : k < m.Tables.length
 ·obtain ⟨b, Hc, rfl, hc⟩ := K0 jo
  have c0 := jv wr b (Hc + k) (tv k) ((Hb.trans H6).cell (by simpa using hc k 0 hlt jo))
  have hT : Ints wr (tv k) (nth m.Tables k) := Arr.keep (rv k hlt) (Hb.trans H6)
  obtain ⟨ao5, c5, e5⟩ := Arr.form hT
  rw [e5] at c0 hT
  have HT := jH hT
  have Ku := r2 _ (nth_in hlt)
  have HS := jH (take_succ_nth m.Tables k hlt)
  generalize nth m.Tables k = tk at *
  clear hc K0 rv e5 hT
  go_wp2_with fail
  refine (numsCopy_any _ tk _ HT.out Ku).mono ?_
  rintro e w1 ⟨x5, rfl, HK, H9⟩
  obtain ⟨a5, HL, rfl⟩ := own_form' HK
  have Hk := jH (HB.out.keeps H9)
  have g2 := Hk.out.blk.cell (j := 2) rfl
  have f2 := Hk.out.blk.thawed 2
  have Hu := Hk.out.blk.lt
  obtain ⟨Hv, Ho⟩ := hid2 HK H9
  have hs1 := H9.size
  clear HK H9 j2 c0
  go_wp2_with (at_builtin; refine wpList_pushes jr (.tmp 63) (.tmp 65) 24 jr Tryd.underlying24 info_ints jr jd (base := W.heap.size) (f := sle) (l := vs) jr (by exact Hk.out.own.keep jk) [⟨a5, tk.length, HL⟩] _ _ jr jt sle_len sle_one (by rw [H1]; simp; omega) (by rw [H1]; simp [maxLen]; omega) jz ?_; intro v7 w7 H0 H3 H2 H4; obtain ⟨a7, c7, rfl⟩ := own_form' H0; have H5 := Blk.grown (Blk.keep Hk.out.blk jk) H2 (fun e => Hk.out.vg e.symm); have HD := H5.cell (j := 2) rfl; have HE := H5.thawed 2; have HF := H5.lt; have HG := jH H5; have Hf := jH H0; have Hg := jH H2; have Hh := jH H4; clear H5 H0 H3 H2 H4)
  go_wp2_with fail
  go_roundw
  case rel =>
   have HM := Hv.out.foot
   have hj := (Hk.out.join (HM.imp fun _ h => Own.ints h) (fun b hb => Nat.le_trans Ht (Hv.out.row b hb)) (fun e => by have := Hv.out.row _ e; have := HB.out.blk.lt; omega) (fun b hb e => by have := Hv.out.row _ hb; have := own_lt' HB.out.own e; omega) (fun _ h => h.elim))
   have hp := (hj.push ku5 Hf.out Hg.out Hh.out 2).weak (G := fun w => F2 w ∧ RowsAt (vs ++ [⟨a5, tk.length, HL⟩]) (m.Tables.take (k + 1)) w) (fun w h => ⟨h.1.1, by rw [HS.out]; exact rowsAt_snoc h.1.2 h.2⟩)
   rw [show (vs ++ [(⟨a5, tk.length, HL⟩ : Sle)]).length = k + 1 by simp [H1]] at hp
   exact ⟨k + 1, _, _, _, by omega, by go_num, hp⟩
  case measure => exact jm
 obtain rfl : k = m.Tables.length := by omega
 rw [List.take_length] at HB
 clear g2 f2
 have Ha := (HB.out.next (β := Ln) (e' := 42) (k' := 2) (f' := cln))
 obtain ⟨S3, Ke⟩ : ∃ Sx : Nat → Prop, Sx = (fun b => S' b ∨ (Value.slice H7 m.Tables.length H8).ownBlock = some b) := ⟨_, rfl⟩
 obtain ⟨F3, HN⟩ : ∃ Fx : World → Prop, Fx = (fun w => (F2 w ∧ RowsAt vs m.Tables w) ∧ Own w W.heap.size 25 1 sle (.slice H7 m.Tables.length H8) vs) := ⟨_, rfl⟩
 rw [← Ke, ← HN] at Ha
 obtain ⟨Kv, He⟩ := hid2 HN Ha
 clear Ha Ke HN HB
 obtain ⟨Hp, rfl⟩ := jE H7
 obtain ⟨Hq, rfl⟩ := jE H8
 go_wp2_with fail
 go_loopw [8] (fun s wr => ∃ (k : Nat) (x : Value), k ≤ m.Lines.length ∧ s = .int .i64 k ∧ Bld W.heap.size W g 28 (fun _ => False) S3 F3 42 2 cln #[.slice Hi m.Text.length Hj, .slice Hm m.Funcs.length Hn, .slice Hp m.Tables.length Hq, .slice ax m.Data.length cx, x, .int .i64 m.Entry] x (m.Lines.take k) wr) (fun s _ => m.Lines.length - (intOf s).toNat)
 case atStart => exact ⟨0, _, Nat.zero_le _, rfl, He.out⟩
 case round =>
 obtain ⟨k, x, hk, rfl, hb⟩ := hrel
 have H6 : Keeps W wr := hb.keep
 have Ht := H6.size
 have j4 := H6.cell i4
 have H1 : (m.Lines.take k).length = k := by simp; omega
 obtain ⟨H7, H8, e7⟩ := own_form' hb.own
 rw [H1] at e7
 subst e7
 have g4 := hb.blk.cell (j := 4) rfl
 have f4 := hb.blk.thawed 4
 have Hu := hb.blk.lt
 have HB := jH hb
 clear hb
 by_cases hlt : k < m.Lines.length
 ·obtain ⟨b, Hc, rfl, hc⟩ := K3 jo
  have c0 := jc wr b (Hc + k * 2) ((nth m.Lines k).At) ((Hb.trans H6).cell (by simpa [Fu.c, Ln.c] using hc k 0 hlt jo))
  have c1 := jc wr b (Hc + k * 2 + 1) ((nth m.Lines k).N) ((Hb.trans H6).cell (by simpa [Fu.c, Ln.c] using hc k 1 hlt jo))
  have HS := jH (take_succ_nth m.Lines k hlt)
  clear hc K3
  go_wp2_with fail
  go_region_law ((refine step_push jr (.tmp 76) (.tmp 82) 26 jr Tryd.underlying26 info_line jr jd (base := W.heap.size) (f := cln) (l := m.Lines.take k) jr (by exact HB.out.own.keep jk) (nth m.Lines k) _ _ jr jt cln_len cln_one (by rw [H1]; omega) (by rw [H1]; unfold maxLen; omega) jz ?_; intro v7 w7 H0 H3 H2 H4; obtain ⟨a7, c7, rfl⟩ := own_form' H0; have H5 := Blk.grown (Blk.keep HB.out.blk jk) H2 (fun e => HB.out.vg e.symm); have HD := H5.cell (j := 4) rfl; have HE := H5.thawed 4; have HF := H5.lt; have HG := jH H5; have Hf := jH H0; have Hg := jH H2; have Hh := jH H4; clear H5 H0 H3 H2 H4))
  all_goals
   go_wp2_with fail
   go_roundw
   case rel =>
    have hp := Bld.push HB.out ku5 Hf.out Hg.out Hh.out 4
    rw [← HS.out, show (m.Lines.take (k + 1)).length = k + 1 by simp; omega] at hp
    exact ⟨k + 1, _, by omega, by go_num, hp⟩
   case measure => exact jm
 obtain rfl : k = m.Lines.length := by omega
 rw [List.take_length] at HB
 clear g4 f4
 have D2 : Blk wr (w.heap.size + 1) (.cells #[.slice none 0 0, .slice none 0 0, .slice none 0 0, .slice none 0 0, .slice none 0 0, .int .i64 0] 28) := Ko.out.keep H6
 have q0 := HB.out.blk.cell (j := 0) rfl
 have d0 := D2.cell (j := 0) rfl
 have u0 := D2.thawed 0
 have q1 := HB.out.blk.cell (j := 1) rfl
 have d1 := D2.cell (j := 1) rfl
 have u1 := D2.thawed 1
 have q2 := HB.out.blk.cell (j := 2) rfl
 have d2 := D2.cell (j := 2) rfl
 have u2 := D2.thawed 2
 have q3 := HB.out.blk.cell (j := 3) rfl
 have d3 := D2.cell (j := 3) rfl
 have u3 := D2.thawed 3
 have q4 := HB.out.blk.cell (j := 4) rfl
 have d4 := D2.cell (j := 4) rfl
 have u4 := D2.thawed 4
 have q5 := HB.out.blk.cell (j := 5) rfl
 have d5 := D2.cell (j := 5) rfl
 have u5 := D2.thawed 5
 have Kw := jH D2
 have hgw : W.heap.size ≤ g := HB.out.Bg
 have Kx : w.heap.size + 1 ≠ g := by have := K7.out; omega
 have h21 : w.heap.size + 1 < W.heap.size := by have := K7.out; omega
 have h22 : w.heap.size + 1 < wr.heap.size := by omega
 clear D2
 go_wp2_with fail
 obtain ⟨wf, Hw⟩ := jE (((((((wr.setCell ⟨w.heap.size + 1, 0, none⟩ (.slice Hi m.Text.length Hj)).setCell ⟨w.heap.size + 1, 1, none⟩ (.slice Hm m.Funcs.length Hn)).setCell ⟨w.heap.size + 1, 2, none⟩ (.slice Hp m.Tables.length Hq)).setCell ⟨w.heap.size + 1, 3, none⟩ (.slice ax m.Data.length cx)).setCell ⟨w.heap.size + 1, 4, none⟩ (.slice H7 m.Lines.length H8)).setCell ⟨w.heap.size + 1, 5, none⟩ (.int .i64 m.Entry)))
 rw [← Hw]
 have Kg : Blk wf (w.heap.size + 1) (.cells #[.slice Hi m.Text.length Hj, .slice Hm m.Funcs.length Hn, .slice Hp m.Tables.length Hq, .slice ax m.Data.length cx, .slice H7 m.Lines.length H8, .int .i64 m.Entry] 28) := by rw [Hw]; exact (((((Kw.out.set 0 _).set 1 _).set 2 _).set 3 _).set 4 _).set 5 _
 have Hl : wr.grownBy wf (some (w.heap.size + 1)) := by rw [Hw]; exact grown_trans (grown_trans (grown_trans (grown_trans (grown_trans (grown_setCell _ _ _ _) (grown_setCell _ _ _ _)) (grown_setCell _ _ _ _)) (grown_setCell _ _ _ _)) (grown_setCell _ _ _ _)) (grown_setCell _ _ _ _)
 have Kr : Keeps w wr := Hb.trans H6
 have Kf : Keeps w wf := Below.grown Kr Hl Kr.size (by intro q e; cases e; omega)
 have hF := (HB.out.foot.and HB.out.own.foot).grown Hl (fun b hb e => by
  cases e
  rcases hb with hb | hb
  ·have := HB.out.SB _ hb; omega
  have := HB.out.own.row _ hb; omega)
 have hh := hF.here
 rw [Kv.out, Kt.out, Ks.out, Kq.out] at hh
 obtain ⟨⟨⟨⟨⟨hD, Kh⟩, Hr⟩, Hd⟩, Ki⟩, Kj⟩ := hh
 have HI : ImgAt wf (.agg #[.slice Hi m.Text.length Hj, .slice Hm m.Funcs.length Hn, .slice Hp m.Tables.length Hq, .slice ax m.Data.length cx, .slice H7 m.Lines.length H8, .int .i64 m.Entry]) m := ⟨_, _, _, _, _, rfl, Kh.bytes, Hr.funs, tabs_of Ki Hd, hD, Kj.lines⟩
 have HZ := jH HI
 obtain ⟨e0, e1, e2, e3, e4, e5⟩ := Kg.k6
 clear Hw Kg Hl hF hD Kh Hr Hd Ki Kj HI q0 d0 u0 q1 d1 u1 q2 d2 u2 q3 d3 u3 q4 d4 u4 q5 d5 u5
 exact bodyPost_ret (v := .agg #[.slice Hi m.Text.length Hj, .slice Hm m.Funcs.length Hn, .slice Hp m.Tables.length Hq, .slice ax m.Data.length cx, .slice H7 m.Lines.length H8, .int .i64 m.Entry]) (by simp [results, Tryd.results4, go_sem, e0, e1, e2, e3, e4, e5]) rfl ⟨_, rfl, HZ.out, Kf⟩
end Go.Proofs.YtgdamggkaklhjaaDoor
