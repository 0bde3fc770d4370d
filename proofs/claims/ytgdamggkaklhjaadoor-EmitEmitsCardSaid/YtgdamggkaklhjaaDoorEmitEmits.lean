/-
The law EmitEmits, for every image and every list of parts, 
-/
import Derived.Test.YtgdamggkaklhjaaDoorCards
import Derived.Test.YtgdamggkaklhjaaDoorTie
import Derived.Test.YtgdamggkaklhjaaDoorEmE
import Derived.Test.YtgdamggkaklhjaaDoorEmD4
import Derived.Test.YtgdamggkaklhjaaDoorEmD6
import Derived.Test.YtgdamggkaklhjaaDoorRefCopy
import Derived.Deep.DeepHandedRow
set_option linter.all false
namespace Go.Proofs.YtgdamggkaklhjaaDoor.emitEmits
open Go.ChangeShapes Go.WideShapes Go.ChangeAt Go.RowKit BH

set_option maxHeartbeats 1000000000
set_option maxRecDepth 100000
theorem small {m : Img} (h : ImgOk m) : ImgSmall m := by
 have hr : reachBytes ≤ 140737488355328 := by decide
 refine ⟨by have := h.text; omega, by have := h.funsN; omega, fun t ht => ?_, by have := h.tabsN; omega, by have := h.dataN; omega, by have := h.linesN; omega⟩
 obtain ⟨i, hi, he⟩ := List.getElem_of_mem ht
 have := (h.tabs i hi).2
 rw [nth_eq _ _ hi, he] at this
 omega
theorem info_part : (Tryd.prog.info? 54).map (fun i => (i.zero, i.size, i.bytes)) = some (some (.agg #[.int .i64 0, .slice none 0 0]), 2, 32) := by kernel_rfl
theorem walk (v lv : Value) (m : Img) (l : List Pa) (w : World) (ht : Tab w) (hs : Siz w) (hv : ImgAt w v m) (hl : PaAt w lv l) (hok : ImgOk m) (hln : l.length * 32 ≤ reachBytes) :
  Calls Tryd.prog 3 #[v, lv] w fun e w' => e = .returned (.bool true) ∧ Keeps w w' := by
 obtain ⟨HS, HV, HL⟩ := hid3 (small hok) hv hl
 have HG : l.length * 32 ≤ 140737488355328 := Nat.le_trans hln jd
 obtain ⟨E, hE⟩ := jE (emE m l)
 obtain ⟨R, hR⟩ := jE (emA m l)
 obtain ⟨P, hP⟩ := jE (emP m l)
 have K7 : recE m = 0 → (recF m).Blocks.length ≤ 1000000000 ∧ (recF m).Firsts.length ≤ 1000000000 := fun h => by obtain ⟨hf, h2⟩ := rec_good h; exact ⟨by rw [nb_is hf]; have := cntL_up m m.Text.length; omega, by rw [(rec_lens m).1]; have := hf.good.funcs; omega⟩
 have h1 := fun w' v' lv' (hk : Keeps w w') (h : ImgAt w' v' m) (hl : PaAt w' lv' l) => emit_any (ht.keep hk) (hs.keep hk) h hl (fun a b => emG a b) K7
 have h2 := fun w' v' lv' (h : ImgAt w' v' m) (hl : PaAt w' lv' l) => emitted_any (w := w') h hl (fun a b => ⟨emG a b, emD a b⟩) K7
 unfold EmAns at h1 h2
 rw [← hE, ← hR, ← hP] at h1 h2
 obtain ⟨H1, H2⟩ := hid2 h1 h2
 have tE : (E == E) = true := by simp
 obtain ⟨PN, Ki⟩ := jE (P.length)
 have K5 := jH Ki
 obtain ⟨HE, ⟨lo, HH, rfl, l1, l2, l3, l4⟩, K8⟩ := hl
 have Kj : Arr w (.slice lo l.length HH) l.length 2 (fun i j => if j = 0 then .int .i64 (nth l i).Func else HE i) := ⟨lo, HH, rfl, l1, l2, l3, l4⟩
 have Kk : ∀ i j, i < l.length → j < 2 → (if j = 0 then Value.int .i64 (nth l i).Func else HE i).oneCell' = true := fun i j hi hj => by
  by_cases q : j = 0
  ·rw [if_pos q]; rfl
  rw [if_neg q]
  obtain ⟨_, _, e, _⟩ := K8 i hi
  rw [e]; rfl
 obtain ⟨Kl, Km, Kn, Ko⟩ := hid4 Kj Kk K8 HG
 clear hE hR hP h1 h2 ht hs hok hln HG K7 Ki l1 l2 l3 l4 Kj Kk K8
 obtain ⟨v0, v1, v2, v3, v4, rfl, z0, z1, ⟨_, z2, _⟩, z3, z4⟩ := hv
 obtain ⟨x0, HJ, rfl⟩ := Arr.form z0
 obtain ⟨x1, HM, rfl⟩ := Arr.form z1
 obtain ⟨x2, HN, rfl⟩ := Arr.form z2
 obtain ⟨x3, HO, rfl⟩ := Arr.form z3
 obtain ⟨x4, HQ, rfl⟩ := Arr.form z4
 clear z0 z1 z2 z3 z4
 go_enter Tryd.func3, Tryd.ntmps3
 go_upto_region 1 with fail
 obtain ⟨wA, Hv, Ht, Hw⟩ : ∃ w', w' = w.alloc (.cells #[.slice x0 m.Text.length HJ, .slice x1 m.Funcs.length HM, .slice x2 m.Tables.length HN, .slice x3 m.Data.length HO, .slice x4 m.Lines.length HQ, .int .i64 m.Entry] 28) ∧ Blk w' w.heap.size (.cells #[.slice x0 m.Text.length HJ, .slice x1 m.Funcs.length HM, .slice x2 m.Tables.length HN, .slice x3 m.Data.length HO, .slice x4 m.Lines.length HQ, .int .i64 m.Entry] 28) ∧ Keeps w w' := ⟨_, rfl, Blk.top _ _, (Keeps.refl _).alloc _⟩
 rw [← Hv]
 obtain ⟨gm, Hx⟩ := jE (w.heap.size)
 rw [← Hx] at Ht ⊢
 obtain ⟨Hd, Hs⟩ := hid2 Ht Hw
 clear Hv Hx Ht Hw
 have n0 := jv wA gm 0 (.slice x0 m.Text.length HJ) (Hd.out.cell (j := 0) rfl)
 have n1 := jv wA gm 1 (.slice x1 m.Funcs.length HM) (Hd.out.cell (j := 1) rfl)
 have n2 := jv wA gm 2 (.slice x2 m.Tables.length HN) (Hd.out.cell (j := 2) rfl)
 have n3 := jv wA gm 3 (.slice x3 m.Data.length HO) (Hd.out.cell (j := 3) rfl)
 have n4 := jv wA gm 4 (.slice x4 m.Lines.length HQ) (Hd.out.cell (j := 4) rfl)
 have n5 := jc wA gm 5 m.Entry (Hd.out.cell (j := 5) rfl)
 have nl := Hd.out.lt
 go_wp2_with fail
 refine (imageCopy_any _ m _ (HV.out.keep Hs.out) HS.out).mono ?_
 rintro e w1 ⟨vk, rfl, hk, Kp⟩
 obtain ⟨HK, H9⟩ := hid2 hk Kp
 obtain ⟨k0, HR, k1, HT, k2, HU, k3, HW, k4, HX, rfl⟩ := img_form hk
 clear hk Kp n0 n1 n2 n3 n4 n5 nl
 go_upto_region 2 with fail
 obtain ⟨w2, Hv, Ht, Hw⟩ : ∃ w', w' = w1.alloc (.cells #[.slice k0 m.Text.length HR, .slice k1 m.Funcs.length HT, .slice k2 m.Tables.length HU, .slice k3 m.Data.length HW, .slice k4 m.Lines.length HX, .int .i64 m.Entry] 28) ∧ Blk w' w1.heap.size (.cells #[.slice k0 m.Text.length HR, .slice k1 m.Funcs.length HT, .slice k2 m.Tables.length HU, .slice k3 m.Data.length HW, .slice k4 m.Lines.length HX, .int .i64 m.Entry] 28) ∧ Keeps w1 w' := ⟨_, rfl, Blk.top _ _, (Keeps.refl _).alloc _⟩
 rw [← Hv]
 obtain ⟨gk, Hx⟩ := jE (w1.heap.size)
 rw [← Hx] at Ht ⊢
 obtain ⟨Hj, H6⟩ := hid2 Ht Hw
 clear Hv Hx Ht Hw
 have Hu := jH ((Keeps.refl w2).drew)
 go_cut [6, 7, 8] (fun s6 s7 s8 wx => ∃ (ga : Nat) (a0 a1 a2 a3 a4 pa : Option Addr) (He Hf Hg Hh Hi pc : Nat), s6 = .pointer (some ⟨ga, 0, none⟩) ∧ s7 = .slice pa PN pc ∧ s8 = .int .i64 E ∧ Hid (Keeps w2 wx) ∧ Hid (Blk wx ga (.cells #[.slice a0 R.Text.length He, .slice a1 R.Funcs.length Hf, .slice a2 R.Tables.length Hg, .slice a3 R.Data.length Hh, .slice a4 R.Lines.length Hi, .int .i64 R.Entry] 28)) ∧ Hid (ImgAt wx (.agg #[.slice a0 R.Text.length He, .slice a1 R.Funcs.length Hf, .slice a2 R.Tables.length Hg, .slice a3 R.Data.length Hh, .slice a4 R.Lines.length Hi, .int .i64 R.Entry]) R) ∧ Hid (PrAt wx (.slice pa PN pc) P))
 case first =>
  go_upto_region 2 with fail
  have i0 := jv w2.drew gk 0 (.slice k0 m.Text.length HR) ((Hj.out.keep Hu.out).cell (j := 0) rfl)
  have i1 := jv w2.drew gk 1 (.slice k1 m.Funcs.length HT) ((Hj.out.keep Hu.out).cell (j := 1) rfl)
  have i2 := jv w2.drew gk 2 (.slice k2 m.Tables.length HU) ((Hj.out.keep Hu.out).cell (j := 2) rfl)
  have i3 := jv w2.drew gk 3 (.slice k3 m.Data.length HW) ((Hj.out.keep Hu.out).cell (j := 3) rfl)
  have i4 := jv w2.drew gk 4 (.slice k4 m.Lines.length HX) ((Hj.out.keep Hu.out).cell (j := 4) rfl)
  have i5 := jc w2.drew gk 5 m.Entry ((Hj.out.keep Hu.out).cell (j := 5) rfl)
  have il := (Hj.out.keep Hu.out).lt
  refine wp_region_held_drew (S := Cells [(gk, 0, .slice k0 m.Text.length HR), (gk, 1, .slice k1 m.Funcs.length HT), (gk, 2, .slice k2 m.Tables.length HU), (gk, 3, .slice k3 m.Data.length HW), (gk, 4, .slice k4 m.Lines.length HX), (gk, 5, .int .i64 m.Entry)]) jx ⟨i0, i1, i2, i3, i4, i5, trivial⟩ (fun H0 => ?_)
  clear i0 i1 i2 i3 i4 i5 il
  refine jp 0 H0 ?_
  refine jp 1 H0 ?_
  refine wpAnyH_ready (rs := [2, 8]) jx (by simp) ?_
  refine AllReadyH.cons (o := ?oa2) ?ha2 ?sa2 (AllReadyH.cons (o := ?ob2) ?hb2 ?sb2 AllReadyH.nil)
  case ha2 => (simp only [jT]; try rfl)
  case hb2 => (simp only [jT]; try rfl)
  case sa2 =>
   intro K hK
   rw [if_pos jr]
   refine wp_copy_nil rfl (.tmp 16) 29 rfl Tryd.underlying29 info_part rfl jd (n := l.length) (c := fun i j => if j = 0 then .int .i64 (nth l i).Func else HE i) jr (Arr.keep Kl.out (Hs.out.trans (H9.out.trans (H6.out.trans Hu.out)))) Km.out Ko.out ?_
   intro v5 w5 HB K9 Hy
   refine goOn hK (Cells.keep H0 Hy) (fun hHeld2 => ?_)
   clear hK K H0
   have H0 := hHeld2
   clear hHeld2
   have Ha := jH (Hu.out.trans Hy)
   have K6 : Hid (PaAt w5 v5 l) := jH ⟨HE, HB, fun i hi => Arr.keep (Kn.out i hi) (Hs.out.trans (H9.out.trans (H6.out.trans Ha.out)))⟩
   obtain ⟨Kr, Ka, e5⟩ := Arr.form HB
   subst e5
   clear HB K9 Hy
   refine wpAnyH_ready (rs := [3, 8]) jx (by simp) ?_
   refine AllReadyH.cons (o := ?oa3) ?ha3 ?sa3 (AllReadyH.cons (o := ?ob3) ?hb3 ?sb3 AllReadyH.nil)
   case ha3 => (simp only [jT]; try rfl)
   case hb3 => (simp only [jT]; try rfl)
   case sa3 =>
    intro K hK
    go_simp
    go_at_call 5
    refine (H1.out _ _ _ (Hs.out.trans (H9.out.trans (H6.out.trans Ha.out))) (HK.out.keep (H6.out.trans Ha.out)) K6.out).mono ?_
    rintro e w6 ⟨iv, pv, rfl, Hk, Hl, Hr⟩
    obtain ⟨HI, HP, HF⟩ := hid3 Hk Hl (Ha.out.trans Hr)
    obtain ⟨a0, He, a1, Hf, a2, Hg, a3, Hh, a4, Hi, rfl⟩ := img_form Hk.here
    obtain ⟨pa, pc, e6⟩ := Arr.form Hl.here
    rw [← K5.out] at e6
    subst e6
    refine goOn hK (Cells.keep H0 Hr) (fun hHeld2 => ?_)
    clear hK K H0
    have H0 := hHeld2
    clear hHeld2
    clear Hk Hl Hr
    refine jp 4 H0 ?_
    refine jp 5 H0 ?_
    refine jp 6 H0 ?_
    refine jp 7 H0 ?_
    refine readyC 8 ?_
    intro K hK
    go_simp
    refine goOn hK (Cells.keep H0 ((Keeps.refl _).alloc _)) (fun hHeld2 => ?_)
    clear hK K H0
    have H0 := hHeld2
    clear hHeld2
    obtain ⟨w7, Hp⟩ := jE ((w6.alloc (.cells #[.slice none 0 0, .slice none 0 0, .slice none 0 0, .slice none 0 0, .slice none 0 0, .int .i64 0] 28)))
    obtain ⟨ga, Hq⟩ := jE (w6.heap.size)
    have Hc : Hid (Blk w7 ga (.cells #[.slice none 0 0, .slice none 0 0, .slice none 0 0, .slice none 0 0, .slice none 0 0, .int .i64 0] 28)) := jH (by rw [Hp]; exact Blk.top' _ _ Hq)
    have H4 : Hid (Keeps w6 w7) := jH (by rw [Hp]; exact ((Keeps.refl _).alloc _))
    obtain ⟨Hz, Hb⟩ := hid2 (HF.out.trans H4.out) (show w2.heap.size ≤ ga by rw [Hq]; exact HF.out.size)
    have HA : Hid (w6.heap.size ≤ ga) := jH (by rw [Hq]; exact Nat.le_refl _)
    rw [← Hp] at H0 ⊢
    rw [← Hq]
    clear Hp Hq
    obtain ⟨z0, z1, z2, z3, z4, z5⟩ := Hc.out.k6
    obtain ⟨u0, u1, u2, u3, u4, u5⟩ := Hc.out.t6
    have ul := Hc.out.lt
    have Hm : ¬ ga = gk := by have h1 := Hj.out.lt; have h2 := Hb.out; omega
    refine readyC 9 ?_
    intro K' hK
    go_simp
    refine goOn hK (by (repeat refine Cells.set ?_ (by simp [Hm])); exact H0) ?_
    clear hK K' H0
    intro H0
    clear z0 u0 z1 u1 z2 u2 z3 u3 z4 u4 z5 u5 ul Hm
    refine jp 10 H0 ?_
    refine jp 11 H0 ?_
    refine wpAnyH_done jx ?_ _
    clear H0
    obtain ⟨wf, Hn⟩ := jE ((((((w7.setCell ⟨ga, 0, none⟩ (.slice a0 R.Text.length He)).setCell ⟨ga, 1, none⟩ (.slice a1 R.Funcs.length Hf)).setCell ⟨ga, 2, none⟩ (.slice a2 R.Tables.length Hg)).setCell ⟨ga, 3, none⟩ (.slice a3 R.Data.length Hh)).setCell ⟨ga, 4, none⟩ (.slice a4 R.Lines.length Hi)).setCell ⟨ga, 5, none⟩ (.int .i64 R.Entry))
    rw [← Hn]
    have Ho : Only (fun b => b = ga) w7 wf := by rw [Hn]; exact (((((Only.set (S := fun b => b = ga) _ ga 0 _ rfl).trans (Only.set _ ga 1 _ rfl)).trans (Only.set _ ga 2 _ rfl)).trans (Only.set _ ga 3 _ rfl)).trans (Only.set _ ga 4 _ rfl)).trans (Only.set _ ga 5 _ rfl)
    have HY : Hid (Blk wf ga (.cells #[.slice a0 R.Text.length He, .slice a1 R.Funcs.length Hf, .slice a2 R.Tables.length Hg, .slice a3 R.Data.length Hh, .slice a4 R.Lines.length Hi, .int .i64 R.Entry] 28)) := jH (by rw [Hn]; exact (Blk.set (Blk.set (Blk.set (Blk.set (Blk.set (Blk.set Hc.out 0 (.slice a0 R.Text.length He)) 1 (.slice a1 R.Funcs.length Hf)) 2 (.slice a2 R.Tables.length Hg)) 3 (.slice a3 R.Data.length Hh)) 4 (.slice a4 R.Lines.length Hi)) 5 (.int .i64 R.Entry)))
    have HZ : Hid (Keeps w2 wf) := jH (by rw [Hn]; exact (Keeps.setCell (Keeps.setCell (Keeps.setCell (Keeps.setCell (Keeps.setCell (Keeps.setCell Hz.out Hb.out _) Hb.out _) Hb.out _) Hb.out _) Hb.out _) Hb.out _))
    obtain ⟨K0, K1⟩ := hid2 (((HI.out.keep H4.out).move Ho.size (fun b hb => Ho.block b ((HI.out.keep H4.out).1 b hb) (fun q => by have h1 := HA.out; have h2 := hb.1; have h3 := hb.2; omega))).here) (((HP.out.keep H4.out).move Ho.size (fun b hb => Ho.block b ((HP.out.keep H4.out).1 b hb) (fun q => by have h1 := HA.out; have h2 := hb.1; have h3 := hb.2; omega))).here)
    clear Hn Ho
    go_wp2_with fail
    go_meet
    case rel => exact ⟨ga, a0, a1, a2, a3, a4, pa, He, Hf, Hg, Hh, Hi, pc, rfl, rfl, rfl, HZ, HY, K0, K1⟩
   case sb3 =>
   intro K hK
   go_simp
   refine goOn hK (Cells.keep H0 ((Keeps.refl _).alloc _)) (fun hHeld2 => ?_)
   clear hK K H0
   have H0 := hHeld2
   clear hHeld2
   obtain ⟨w7, Hp⟩ := jE ((w5.alloc (.cells #[.slice none 0 0, .slice none 0 0, .slice none 0 0, .slice none 0 0, .slice none 0 0, .int .i64 0] 28)))
   obtain ⟨ga, Hq⟩ := jE (w5.heap.size)
   have Hc : Hid (Blk w7 ga (.cells #[.slice none 0 0, .slice none 0 0, .slice none 0 0, .slice none 0 0, .slice none 0 0, .int .i64 0] 28)) := jH (by rw [Hp]; exact Blk.top' _ _ Hq)
   have H4 : Hid (Keeps w5 w7) := jH (by rw [Hp]; exact ((Keeps.refl _).alloc _))
   obtain ⟨Hz, Hb⟩ := hid2 (Ha.out.trans H4.out) (show w2.heap.size ≤ ga by rw [Hq]; exact Ha.out.size)
   rw [← Hp] at H0 ⊢
   rw [← Hq]
   clear Hp Hq
   have Kb := jH (K6.out.keep H4.out)
   refine readyC 3 ?_
   intro K hK
   go_simp
   go_at_call 5
   refine (H1.out _ _ _ (Hs.out.trans (H9.out.trans (H6.out.trans Hz.out))) (HK.out.keep (H6.out.trans Hz.out)) Kb.out).mono ?_
   rintro e w6 ⟨iv, pv, rfl, Hk, Hl, Hr⟩
   obtain ⟨HI, HP⟩ := hid2 Hk Hl
   have HA : Hid (ga < w7.heap.size) := jH Hc.out.lt
   obtain ⟨Hc, HF⟩ := hid2 (Hc.out.keep Hr) (Hz.out.trans Hr)
   obtain ⟨a0, He, a1, Hf, a2, Hg, a3, Hh, a4, Hi, rfl⟩ := img_form Hk.here
   obtain ⟨pa, pc, e6⟩ := Arr.form Hl.here
   rw [← K5.out] at e6
   subst e6
   refine goOn hK (Cells.keep H0 Hr) (fun hHeld2 => ?_)
   clear hK K H0
   have H0 := hHeld2
   clear hHeld2
   clear Hk Hl Hr
   refine jp 4 H0 ?_
   refine jp 5 H0 ?_
   refine jp 6 H0 ?_
   refine jp 7 H0 ?_
   obtain ⟨z0, z1, z2, z3, z4, z5⟩ := Hc.out.k6
   obtain ⟨u0, u1, u2, u3, u4, u5⟩ := Hc.out.t6
   have ul := Hc.out.lt
   have Hm : ¬ ga = gk := by have h1 := Hj.out.lt; have h2 := Hb.out; omega
   refine readyC 9 ?_
   intro K' hK
   go_simp
   refine goOn hK (by (repeat refine Cells.set ?_ (by simp [Hm])); exact H0) ?_
   clear hK K' H0
   intro H0
   clear z0 u0 z1 u1 z2 u2 z3 u3 z4 u4 z5 u5 ul Hm
   refine jp 10 H0 ?_
   refine jp 11 H0 ?_
   refine wpAnyH_done jx ?_ _
   clear H0
   obtain ⟨wf, Hn⟩ := jE ((((((w6.setCell ⟨ga, 0, none⟩ (.slice a0 R.Text.length He)).setCell ⟨ga, 1, none⟩ (.slice a1 R.Funcs.length Hf)).setCell ⟨ga, 2, none⟩ (.slice a2 R.Tables.length Hg)).setCell ⟨ga, 3, none⟩ (.slice a3 R.Data.length Hh)).setCell ⟨ga, 4, none⟩ (.slice a4 R.Lines.length Hi)).setCell ⟨ga, 5, none⟩ (.int .i64 R.Entry))
   rw [← Hn]
   have Ho : Only (fun b => b = ga) w6 wf := by rw [Hn]; exact (((((Only.set (S := fun b => b = ga) _ ga 0 _ rfl).trans (Only.set _ ga 1 _ rfl)).trans (Only.set _ ga 2 _ rfl)).trans (Only.set _ ga 3 _ rfl)).trans (Only.set _ ga 4 _ rfl)).trans (Only.set _ ga 5 _ rfl)
   have HY : Hid (Blk wf ga (.cells #[.slice a0 R.Text.length He, .slice a1 R.Funcs.length Hf, .slice a2 R.Tables.length Hg, .slice a3 R.Data.length Hh, .slice a4 R.Lines.length Hi, .int .i64 R.Entry] 28)) := jH (by rw [Hn]; exact (Blk.set (Blk.set (Blk.set (Blk.set (Blk.set (Blk.set Hc.out 0 (.slice a0 R.Text.length He)) 1 (.slice a1 R.Funcs.length Hf)) 2 (.slice a2 R.Tables.length Hg)) 3 (.slice a3 R.Data.length Hh)) 4 (.slice a4 R.Lines.length Hi)) 5 (.int .i64 R.Entry)))
   have HZ : Hid (Keeps w2 wf) := jH (by rw [Hn]; exact (Keeps.setCell (Keeps.setCell (Keeps.setCell (Keeps.setCell (Keeps.setCell (Keeps.setCell HF.out Hb.out _) Hb.out _) Hb.out _) Hb.out _) Hb.out _) Hb.out _))
   obtain ⟨K0, K1⟩ := hid2 ((HI.out.move Ho.size (fun b hb => Ho.block b (HI.out.1 b hb) (fun q => by have h1 := HA.out; have h2 := hb.1; have h3 := hb.2; omega))).here) ((HP.out.move Ho.size (fun b hb => Ho.block b (HP.out.1 b hb) (fun q => by have h1 := HA.out; have h2 := hb.1; have h3 := hb.2; omega))).here)
   clear Hn Ho
   go_wp2_with fail
   go_meet
   case rel => exact ⟨ga, a0, a1, a2, a3, a4, pa, He, Hf, Hg, Hh, Hi, pc, rfl, rfl, rfl, HZ, HY, K0, K1⟩
  case sb2 =>
  intro K hK
  go_simp
  refine goOn hK (Cells.keep H0 ((Keeps.refl _).alloc _)) (fun hHeld2 => ?_)
  clear hK K H0
  have H0 := hHeld2
  clear hHeld2
  obtain ⟨w7, Hp⟩ := jE ((w2.alloc (.cells #[.slice none 0 0, .slice none 0 0, .slice none 0 0, .slice none 0 0, .slice none 0 0, .int .i64 0] 28)).drew)
  obtain ⟨ga, Hq⟩ := jE (w2.heap.size)
  have Hc : Hid (Blk w7 ga (.cells #[.slice none 0 0, .slice none 0 0, .slice none 0 0, .slice none 0 0, .slice none 0 0, .int .i64 0] 28)) := jH (by rw [Hp]; exact (Blk.top' _ _ Hq).keep ((Keeps.refl _).drew))
  have H4 : Hid (Keeps w2 w7) := jH (by rw [Hp]; exact ((Keeps.refl _).alloc _).drew)
  obtain ⟨Hz, Hb⟩ := hid2 ((Keeps.refl w2).trans H4.out) (show w2.heap.size ≤ ga by rw [Hq]; exact (Keeps.refl w2).size)
  rw [← Hp] at H0 ⊢
  rw [← Hq]
  clear Hp Hq
  refine readyC 2 ?_
  intro K hK
  rw [if_pos jr]
  refine wp_copy_nil rfl (.tmp 16) 29 rfl Tryd.underlying29 info_part rfl jd (n := l.length) (c := fun i j => if j = 0 then .int .i64 (nth l i).Func else HE i) jr (Arr.keep Kl.out (Hs.out.trans (H9.out.trans (H6.out.trans Hz.out)))) Km.out Ko.out ?_
  intro v5 w5 HB K9 Hy
  refine goOn hK (Cells.keep H0 Hy) (fun hHeld2 => ?_)
  clear hK K H0
  have H0 := hHeld2
  clear hHeld2
  obtain ⟨Hc, Ha⟩ := hid2 (Hc.out.keep Hy) (Hz.out.trans Hy)
  have K6 : Hid (PaAt w5 v5 l) := jH ⟨HE, HB, fun i hi => Arr.keep (Kn.out i hi) (Hs.out.trans (H9.out.trans (H6.out.trans Ha.out)))⟩
  obtain ⟨Kr, Ka, e5⟩ := Arr.form HB
  subst e5
  clear HB K9 Hy
  refine readyC 3 ?_
  intro K hK
  go_simp
  go_at_call 5
  refine (H1.out _ _ _ (Hs.out.trans (H9.out.trans (H6.out.trans Ha.out))) (HK.out.keep (H6.out.trans Ha.out)) K6.out).mono ?_
  rintro e w6 ⟨iv, pv, rfl, Hk, Hl, Hr⟩
  obtain ⟨HI, HP⟩ := hid2 Hk Hl
  have HA : Hid (ga < w5.heap.size) := jH Hc.out.lt
  obtain ⟨Hc, HF⟩ := hid2 (Hc.out.keep Hr) (Ha.out.trans Hr)
  obtain ⟨a0, He, a1, Hf, a2, Hg, a3, Hh, a4, Hi, rfl⟩ := img_form Hk.here
  obtain ⟨pa, pc, e6⟩ := Arr.form Hl.here
  rw [← K5.out] at e6
  subst e6
  refine goOn hK (Cells.keep H0 Hr) (fun hHeld2 => ?_)
  clear hK K H0
  have H0 := hHeld2
  clear hHeld2
  clear Hk Hl Hr
  refine jp 4 H0 ?_
  refine jp 5 H0 ?_
  refine jp 6 H0 ?_
  refine jp 7 H0 ?_
  obtain ⟨z0, z1, z2, z3, z4, z5⟩ := Hc.out.k6
  obtain ⟨u0, u1, u2, u3, u4, u5⟩ := Hc.out.t6
  have ul := Hc.out.lt
  have Hm : ¬ ga = gk := by have h1 := Hj.out.lt; have h2 := Hb.out; omega
  refine readyC 9 ?_
  intro K' hK
  go_simp
  refine goOn hK (by (repeat refine Cells.set ?_ (by simp [Hm])); exact H0) ?_
  clear hK K' H0
  intro H0
  clear z0 u0 z1 u1 z2 u2 z3 u3 z4 u4 z5 u5 ul Hm
  refine jp 10 H0 ?_
  refine jp 11 H0 ?_
  refine wpAnyH_done jx ?_ _
  clear H0
  obtain ⟨wf, Hn⟩ := jE ((((((w6.setCell ⟨ga, 0, none⟩ (.slice a0 R.Text.length He)).setCell ⟨ga, 1, none⟩ (.slice a1 R.Funcs.length Hf)).setCell ⟨ga, 2, none⟩ (.slice a2 R.Tables.length Hg)).setCell ⟨ga, 3, none⟩ (.slice a3 R.Data.length Hh)).setCell ⟨ga, 4, none⟩ (.slice a4 R.Lines.length Hi)).setCell ⟨ga, 5, none⟩ (.int .i64 R.Entry))
  rw [← Hn]
  have Ho : Only (fun b => b = ga) w6 wf := by rw [Hn]; exact (((((Only.set (S := fun b => b = ga) _ ga 0 _ rfl).trans (Only.set _ ga 1 _ rfl)).trans (Only.set _ ga 2 _ rfl)).trans (Only.set _ ga 3 _ rfl)).trans (Only.set _ ga 4 _ rfl)).trans (Only.set _ ga 5 _ rfl)
  have HY : Hid (Blk wf ga (.cells #[.slice a0 R.Text.length He, .slice a1 R.Funcs.length Hf, .slice a2 R.Tables.length Hg, .slice a3 R.Data.length Hh, .slice a4 R.Lines.length Hi, .int .i64 R.Entry] 28)) := jH (by rw [Hn]; exact (Blk.set (Blk.set (Blk.set (Blk.set (Blk.set (Blk.set Hc.out 0 (.slice a0 R.Text.length He)) 1 (.slice a1 R.Funcs.length Hf)) 2 (.slice a2 R.Tables.length Hg)) 3 (.slice a3 R.Data.length Hh)) 4 (.slice a4 R.Lines.length Hi)) 5 (.int .i64 R.Entry)))
  have HZ : Hid (Keeps w2 wf) := jH (by rw [Hn]; exact (Keeps.setCell (Keeps.setCell (Keeps.setCell (Keeps.setCell (Keeps.setCell (Keeps.setCell HF.out Hb.out _) Hb.out _) Hb.out _) Hb.out _) Hb.out _) Hb.out _))
  obtain ⟨K0, K1⟩ := hid2 ((HI.out.move Ho.size (fun b hb => Ho.block b (HI.out.1 b hb) (fun q => by have h1 := HA.out; have h2 := hb.1; have h3 := hb.2; omega))).here) ((HP.out.move Ho.size (fun b hb => Ho.block b (HP.out.1 b hb) (fun q => by have h1 := HA.out; have h2 := hb.1; have h3 := hb.2; omega))).here)
  clear Hn Ho
  go_wp2_with fail
  go_meet
  case rel => exact ⟨ga, a0, a1, a2, a3, a4, pa, He, Hf, Hg, Hh, Hi, pc, rfl, rfl, rfl, HZ, HY, K0, K1⟩
 case rest =>
 obtain ⟨ga, a0, a1, a2, a3, a4, pa, He, Hf, Hg, Hh, Hi, pc, rfl, rfl, rfl, K2, HC, Ks, Kt⟩ := hcut
 obtain ⟨w7, Hp⟩ := jE wc
 subst Hp
 have H4 := K2
 clear K2
 have n0 := jv w7 gm 0 (.slice x0 m.Text.length HJ) ((Hd.out.keep (H9.out.trans (H6.out.trans H4.out))).cell (j := 0) rfl)
 have n1 := jv w7 gm 1 (.slice x1 m.Funcs.length HM) ((Hd.out.keep (H9.out.trans (H6.out.trans H4.out))).cell (j := 1) rfl)
 have n2 := jv w7 gm 2 (.slice x2 m.Tables.length HN) ((Hd.out.keep (H9.out.trans (H6.out.trans H4.out))).cell (j := 2) rfl)
 have n3 := jv w7 gm 3 (.slice x3 m.Data.length HO) ((Hd.out.keep (H9.out.trans (H6.out.trans H4.out))).cell (j := 3) rfl)
 have n4 := jv w7 gm 4 (.slice x4 m.Lines.length HQ) ((Hd.out.keep (H9.out.trans (H6.out.trans H4.out))).cell (j := 4) rfl)
 have n5 := jc w7 gm 5 m.Entry ((Hd.out.keep (H9.out.trans (H6.out.trans H4.out))).cell (j := 5) rfl)
 have nl := (Hd.out.keep (H9.out.trans (H6.out.trans H4.out))).lt
 go_wp2_with fail
 refine (H2.out _ _ _ (HV.out.keep (Hs.out.trans (H9.out.trans (H6.out.trans H4.out)))) (HL.out.keep (Hs.out.trans (H9.out.trans (H6.out.trans H4.out))))).mono ?_
 rintro e w8 ⟨iv, pv, rfl, Hk, Hl, Kq⟩
 have Hk := Hk.here
 have Hl := Hl.here
 obtain ⟨Ku, Kv, H8⟩ := hid3 Hk Hl Kq
 obtain ⟨b0, Kc, b1, Kd, b2, Ke, b3, Kf, b4, Kg, rfl⟩ := img_form Hk
 obtain ⟨qa, qc, e6⟩ := Arr.form Hl
 rw [← K5.out] at e6
 subst e6
 clear Hk Hl Kq n0 n1 n2 n3 n4 n5 nl
 go_upto_region 4 with fail
 obtain ⟨w9, Hv, Ht, Hw⟩ : ∃ w', w' = w8.alloc (.cells #[.slice b0 R.Text.length Kc, .slice b1 R.Funcs.length Kd, .slice b2 R.Tables.length Ke, .slice b3 R.Data.length Kf, .slice b4 R.Lines.length Kg, .int .i64 R.Entry] 28) ∧ Blk w' w8.heap.size (.cells #[.slice b0 R.Text.length Kc, .slice b1 R.Funcs.length Kd, .slice b2 R.Tables.length Ke, .slice b3 R.Data.length Kf, .slice b4 R.Lines.length Kg, .int .i64 R.Entry] 28) ∧ Keeps w8 w' := ⟨_, rfl, Blk.top _ _, (Keeps.refl _).alloc _⟩
 rw [← Hv]
 obtain ⟨gb, Hx⟩ := jE (w8.heap.size)
 rw [← Hx] at Ht ⊢
 obtain ⟨HD, H7⟩ := hid2 Ht Hw
 clear Hv Hx Ht Hw
 have p0 := jv w9 ga 0 (.slice a0 R.Text.length He) ((HC.out.keep (H8.out.trans H7.out)).cell (j := 0) rfl)
 have p1 := jv w9 ga 1 (.slice a1 R.Funcs.length Hf) ((HC.out.keep (H8.out.trans H7.out)).cell (j := 1) rfl)
 have p2 := jv w9 ga 2 (.slice a2 R.Tables.length Hg) ((HC.out.keep (H8.out.trans H7.out)).cell (j := 2) rfl)
 have p3 := jv w9 ga 3 (.slice a3 R.Data.length Hh) ((HC.out.keep (H8.out.trans H7.out)).cell (j := 3) rfl)
 have p4 := jv w9 ga 4 (.slice a4 R.Lines.length Hi) ((HC.out.keep (H8.out.trans H7.out)).cell (j := 4) rfl)
 have p5 := jc w9 ga 5 R.Entry ((HC.out.keep (H8.out.trans H7.out)).cell (j := 5) rfl)
 have pl := (HC.out.keep (H8.out.trans H7.out)).lt
 have q0 := jv w9 gb 0 (.slice b0 R.Text.length Kc) (HD.out.cell (j := 0) rfl)
 have q1 := jv w9 gb 1 (.slice b1 R.Funcs.length Kd) (HD.out.cell (j := 1) rfl)
 have q2 := jv w9 gb 2 (.slice b2 R.Tables.length Ke) (HD.out.cell (j := 2) rfl)
 have q3 := jv w9 gb 3 (.slice b3 R.Data.length Kf) (HD.out.cell (j := 3) rfl)
 have q4 := jv w9 gb 4 (.slice b4 R.Lines.length Kg) (HD.out.cell (j := 4) rfl)
 have q5 := jc w9 gb 5 R.Entry (HD.out.cell (j := 5) rfl)
 have ql := HD.out.lt
 go_wp2_with (first
  | (go_at_call 7; (with_reducible show Calls _ _ #[.agg #[.slice a0 _ _, _, _, _, _, _], _] _ _); refine (sameImage_yes _ _ R _ (Ks.out.keep (H8.out.trans H7.out)) (Ku.out.keep H7.out)).mono ?_; rintro e w10 ⟨rfl, K3⟩; have H3 := jH K3; clear K3 p0 p1 p2 p3 p4 p5 pl q0 q1 q2 q3 q4 q5 ql)
  | (go_at_call 8; refine (samePairs_yes _ _ P _ (Arr.keep Kt.out (H8.out.trans (H7.out.trans H3.out))) (Arr.keep Kv.out (H7.out.trans H3.out))).mono ?_; rintro e w11 ⟨rfl, K4⟩; have H5 := jH K4
     have i0 := jv w11 gk 0 (.slice k0 m.Text.length HR) ((Hj.out.keep (H4.out.trans (H8.out.trans (H7.out.trans (H3.out.trans H5.out))))).cell (j := 0) rfl)
     have i1 := jv w11 gk 1 (.slice k1 m.Funcs.length HT) ((Hj.out.keep (H4.out.trans (H8.out.trans (H7.out.trans (H3.out.trans H5.out))))).cell (j := 1) rfl)
     have i2 := jv w11 gk 2 (.slice k2 m.Tables.length HU) ((Hj.out.keep (H4.out.trans (H8.out.trans (H7.out.trans (H3.out.trans H5.out))))).cell (j := 2) rfl)
     have i3 := jv w11 gk 3 (.slice k3 m.Data.length HW) ((Hj.out.keep (H4.out.trans (H8.out.trans (H7.out.trans (H3.out.trans H5.out))))).cell (j := 3) rfl)
     have i4 := jv w11 gk 4 (.slice k4 m.Lines.length HX) ((Hj.out.keep (H4.out.trans (H8.out.trans (H7.out.trans (H3.out.trans H5.out))))).cell (j := 4) rfl)
     have i5 := jc w11 gk 5 m.Entry ((Hj.out.keep (H4.out.trans (H8.out.trans (H7.out.trans (H3.out.trans H5.out))))).cell (j := 5) rfl)
     have il := (Hj.out.keep (H4.out.trans (H8.out.trans (H7.out.trans (H3.out.trans H5.out))))).lt
     have n0 := jv w11 gm 0 (.slice x0 m.Text.length HJ) ((Hd.out.keep (H9.out.trans (H6.out.trans (H4.out.trans (H8.out.trans (H7.out.trans (H3.out.trans H5.out))))))).cell (j := 0) rfl)
     have n1 := jv w11 gm 1 (.slice x1 m.Funcs.length HM) ((Hd.out.keep (H9.out.trans (H6.out.trans (H4.out.trans (H8.out.trans (H7.out.trans (H3.out.trans H5.out))))))).cell (j := 1) rfl)
     have n2 := jv w11 gm 2 (.slice x2 m.Tables.length HN) ((Hd.out.keep (H9.out.trans (H6.out.trans (H4.out.trans (H8.out.trans (H7.out.trans (H3.out.trans H5.out))))))).cell (j := 2) rfl)
     have n3 := jv w11 gm 3 (.slice x3 m.Data.length HO) ((Hd.out.keep (H9.out.trans (H6.out.trans (H4.out.trans (H8.out.trans (H7.out.trans (H3.out.trans H5.out))))))).cell (j := 3) rfl)
     have n4 := jv w11 gm 4 (.slice x4 m.Lines.length HQ) ((Hd.out.keep (H9.out.trans (H6.out.trans (H4.out.trans (H8.out.trans (H7.out.trans (H3.out.trans H5.out))))))).cell (j := 4) rfl)
     have n5 := jc w11 gm 5 m.Entry ((Hd.out.keep (H9.out.trans (H6.out.trans (H4.out.trans (H8.out.trans (H7.out.trans (H3.out.trans H5.out))))))).cell (j := 5) rfl)
     have nl := (Hd.out.keep (H9.out.trans (H6.out.trans (H4.out.trans (H8.out.trans (H7.out.trans (H3.out.trans H5.out))))))).lt
     clear K4)
  | (go_at_call 7; refine (sameImage_yes _ _ m _ (HK.out.keep (H6.out.trans (H4.out.trans (H8.out.trans (H7.out.trans (H3.out.trans H5.out)))))) (HV.out.keep (Hs.out.trans (H9.out.trans (H6.out.trans (H4.out.trans (H8.out.trans (H7.out.trans (H3.out.trans H5.out))))))))).mono ?_; rintro e w12 ⟨rfl, Kh⟩))
 go_ret
 exact ⟨by simp, Hs.out.trans (H9.out.trans (H6.out.trans (H4.out.trans (H8.out.trans (H7.out.trans (H3.out.trans (H5.out.trans Kh)))))))⟩

theorem own : ownKnob Tryd.prog.godebug = none := by kernel_rfl
theorem laidOut : laidOutB Tryd.prog = true := by kernel_rfl
theorem reads : ∀ t ∈ Tryd.f3.params.toList, Tryd.prog.readableRec t = true ∧ t < Tryd.prog.types.size := by
 intro t ht
 rw [Tryd.params3] at ht
 simp only [List.mem_cons, List.mem_nil_iff, or_false] at ht
 rcases ht with rfl | rfl <;> exact ⟨by kernel_rfl, of_decide_eq_true jx⟩

theorem contract (H : Type) (enc : TypeId × Value → H) (W : World) (base : Nat) (args : Array Value) (ds gs : List (DataW H)) (before : List MemPlace)
  (hval : ∀ (j : Nat) t v, Tryd.f3.params[j]? = some t → args[j]? = some v → Value.okWide Tryd.prog W .any base t v)
  (hW : DataW.Whole enc Tryd.prog Tryd.f3.params.toList Rows.emitEmitsSpec.vars false W args.toList ds gs before)
  (hsz : (DataW.weightsEach Tryd.prog (Tryd.f3.params.toList ++ []) (ds ++ gs)).all (· ≤ reachBytes) = true)
  (hL : laidMetH Tryd.prog Rows.emitEmitsRow.laid W) :
  Calls Tryd.prog 3 args W fun e W' => ∃ v, e = .returned v ∧ Rows.emitEmitsSpec.post enc Tryd.prog Tryd.f3 false true false false W args v W' := by
 have hT : Tab W := tab_of_laid hL
 have hS : Siz W := siz_of_laid hL
 have H2 := hW
 obtain ⟨p, q, H3, hV, rfl, hfz, hnd⟩ := hW
 have hA : DataW.TrodAll enc Tryd.prog W 0 (fun _ => true) true Tryd.f3.params.toList args.toList ds p := H3
 have H0 := hsz
 rw [Tryd.params3] at hA hval H0
 obtain ⟨v0, v1, d0, d1, p0, p1, H1, rfl, rfl, h0, h1⟩ := trodAll_two hA
 obtain ⟨rfl, rfl⟩ := trodVars_none hV
 obtain rfl : args = #[v0, v1] := by cases args; simp_all
 obtain ⟨m, hm, H4⟩ := img_open (hval 0 _ v0 rfl rfl) h0 (fits_each H0 (j := 0) rfl rfl)
 obtain ⟨ao1, ln1, cp1, rfl⟩ := okWide_slice Tryd.underlying29 (hval 1 _ v1 rfl rfl)
 obtain ⟨fu1, t1⟩ := h1
 obtain ⟨l, hl, ol⟩ := parts_open t1 (fits_each H0 (j := 1) rfl rfl)
 refine (walk _ _ m l W hT hS hm hl H4 ol).mono fun e W' ⟨he, hk⟩ => ?_
 subst he
 exact ⟨_, rfl, law_post laidOut reads rfl Tryd.underlying4 rfl rfl rfl rfl H2 hk⟩

noncomputable def laidWorld (os : Os) : World :=
 { World.holding Tryd.prog os ⟨#[], #[], []⟩ with heap := (((World.holding Tryd.prog os ⟨#[], #[], []⟩).heap.modify 1 fun
   | .cells _ t frozen => .cells #[.int .u8 0, .int .u8 0, .int .i64 0, .int .u8 0, .int .u8 0, .int .i64 1, .int .u8 1, .int .u8 0, .int .i64 1, .int .u8 2, .int .u8 0, .int .i64 1, .int .u8 3, .int .u8 0, .int .i64 1, .int .u8 16, .int .u8 0, .int .i64 2, .int .u8 17, .int .u8 0, .int .i64 3, .int .u8 32, .int .u8 0, .int .i64 4, .int .u8 33, .int .u8 0, .int .i64 4, .int .u8 34, .int .u8 0, .int .i64 4, .int .u8 35, .int .u8 0, .int .i64 4, .int .u8 36, .int .u8 0, .int .i64 4, .int .u8 37, .int .u8 0, .int .i64 4, .int .u8 38, .int .u8 0, .int .i64 4, .int .u8 48, .int .u8 0, .int .i64 3, .int .u8 49, .int .u8 0, .int .i64 5, .int .u8 64, .int .u8 0, .int .i64 6, .int .u8 65, .int .u8 0, .int .i64 7, .int .u8 80, .int .u8 84, .int .i64 8, .int .u8 81, .int .u8 85, .int .i64 8, .int .u8 82, .int .u8 86, .int .i64 8, .int .u8 83, .int .u8 87, .int .i64 8, .int .u8 96, .int .u8 97, .int .i64 9, .int .u8 98, .int .u8 0, .int .i64 10, .int .u8 99, .int .u8 0, .int .i64 11] t frozen
   | o => o).modify 0 fun
   | .cells _ t frozen => .cells #[.int .i64 0, .int .i64 1, .int .i64 4, .int .i64 3, .int .i64 3, .int .i64 3, .int .i64 2, .int .i64 2, .int .i64 3, .int .i64 2, .int .i64 3, .int .i64 3] t frozen
   | o => o) }
theorem laid_met (os : Os) : laidMet Tryd.prog Rows.emitEmitsRow.laid ((laidWorld os).forCall (fun _ _ => 0) ⟨#[], #[.agg #[.slice none 0 0, .slice none 0 0, .slice none 0 0, .slice none 0 0, .slice none 0 0, .int .i64 0], .slice none 0 0], []⟩).memory :=
 laidMet_of_run' 8 jx jx
theorem readsW (os : Os) {H : Type} (enc : TypeId × Value → H) : ∃ places, DataW.whole enc Tryd.prog ((laidWorld os).forCall (fun _ _ => 0) ⟨#[], #[.agg #[.slice none 0 0, .slice none 0 0, .slice none 0 0, .slice none 0 0, .slice none 0 0, .int .i64 0], .slice none 0 0], []⟩).memory Tryd.f3.params.toList Rows.emitEmitsSpec.vars false (#[.agg #[.slice none 0 0, .slice none 0 0, .slice none 0 0, .slice none 0 0, .slice none 0 0, .int .i64 0], .slice none 0 0] : Array Value).toList 8 = some ([.agg [.nil, .nil, .nil, .nil, .nil, .lit (.int .i64 0)], .nil], [], places) :=
 ⟨[], by kernel_rfl⟩

theorem lifted (os : Os) (started : os.Started) (H : Type) (enc : TypeId × Value → H) (F : Stop.Interp) :
  ReturnsInHanded {} Tryd.checked os 3 .any ((OpenSpec.ofChange Rows.emitEmitsSpec).preRow enc Tryd.prog Tryd.f3 Rows.emitEmitsRow.domain false Rows.emitEmitsRow.laid) (((OpenSpec.ofChange Rows.emitEmitsSpec).at F).post enc Tryd.prog Tryd.f3 false true false false) := by
 obtain ⟨H0, hx⟩ := readsW os enc
 refine returnsInHanded_of_row (C := Tryd.checked) (s := OpenSpec.ofChange Rows.emitEmitsSpec) own started jx Tryd.func3
  (witness_row_at (enc := enc) (C := Tryd.checked) false (laidWorld os) #[.agg #[.slice none 0 0, .slice none 0 0, .slice none 0 0, .slice none 0 0, .slice none 0 0, .int .i64 0], .slice none 0 0] rfl jx jx jx
   (OpenSpec.preRow_of_cond 8 hx jx (fun k hk => by cases hk) jx (laid_met os))) ?_
 intro W base args ds gs before H1 hW H2 H3 H4 hL H5 H6
 exact contract H enc W base args ds gs before H1 hW (by first | exact H2 | exact H3 | exact H4 | exact H5 | exact H6) hL

theorem said : Rows.EmitEmitsSaid :=
 OpenClaim.holds_of_cond 3 Tryd.f3 rfl rfl rfl rfl rfl rfl rfl ⟨rfl, rfl, rfl, rfl, rfl⟩ rfl rfl rfl rfl rfl jx Tryd.func3 jx
  (of_decide_eq_true jx) (by unfold Func.isWrapper; first | (rw [if_pos (by decide +kernel)]; kernel_rfl) | (rw [if_neg (by decide +kernel)]; exact ⟨rfl, rfl⟩))
  (fun os started H enc _ F => by rw [OpenClaim.pre_eq_preRow]; exact lifted os started H enc F)

theorem plain (f : FuncId) (fn : Func) (hf : Tryd.pinned.checked.prog.funcNamed "bolthole/boltholelaw.EmitEmits" = some f) (hfn : Tryd.pinned.checked.prog.funcs[f]? = some fn) :
  false = Tryd.pinned.checked.prog.looks [] ∧ ∀ (j : Nat) t, fn.params[j]? = some t → Tryd.pinned.checked.prog.wantsStandIn t = false := by
 obtain rfl : f = 3 := Option.some.inj ((show Tryd.prog.funcNamed "bolthole/boltholelaw.EmitEmits" = some 3 by kernel_rfl).symm.trans hf) |>.symm
 obtain rfl : fn = Tryd.f3 := (Option.some.inj (Tryd.func3.symm.trans hfn)).symm
 refine ⟨by kernel_rfl, fun j t ht => ?_⟩
 rw [Tryd.params3] at ht
 have hm := Array.mem_of_getElem? ht
 simp only [List.mem_toArray, List.mem_cons, List.mem_nil_iff, or_false] at hm
 rcases hm with rfl | rfl
 ·exact (show Tryd.prog.wantsStandIn 28 = false by kernel_rfl)
 exact (show Tryd.prog.wantsStandIn 29 = false by kernel_rfl)

theorem card : Rows.EmitEmitsCardSaid :=
 Claim7.holds_tied_plain_at .later [] _ _ _ _ said (fun _ h => by cases h) jx (fun _ h => by cases h) emitEmits_row_tie rfl ⟨rfl, rfl⟩ jx rfl plain jx
end Go.Proofs.YtgdamggkaklhjaaDoor.emitEmits
