/-
 The document's ImageCopy: an image that reads the same, in memory of the call's own.
-/
import Derived.Test.YtnekiooaobnndaaDoorNumsCopy
import Derived.Deep.RegionHeld3
import Derived.Deep.DeepCutAuto
import Derived.Deep.RegionLaw
import Derived.Deep.QuietTactic
import Derived.BigQuiet
set_option linter.all false
namespace Go.Proofs.YtnekiooaobnndaaDoor
open Go.RowKit BH
set_option maxHeartbeats 4000000
set_option maxRecDepth 100000

/-- the new image when its numbers have been copied -/
def CopyHead (m : Img) (W : World) (s3 : Value) (wx : World) : Prop :=
 ∃ (g : Nat) (a : Option Addr) (c : Nat) (S : Nat → Prop), s3 = .pointer (some ⟨g, 0, none⟩) ∧
  Bld W.heap.size W g 28 (fun _ => False) S (fun w => Ints w (.slice a m.Data.length c) m.Data) 5 1 cb #[.slice none 0 0, .slice none 0 0, .slice none 0 0, .slice a m.Data.length c, .slice none 0 0, .int .i64 m.Entry] (.slice none 0 0) ([] : List UInt8) wx
theorem copyHead_of {m : Img} {W wx : World} {g : Nat} {a : Option Addr} {c : Nat} (hk : Keeps W wx) (hg : W.heap.size ≤ g) (hB : Blk wx g (.cells #[.slice none 0 0, .slice none 0 0, .slice none 0 0, .slice a m.Data.length c, .slice none 0 0, .int .i64 m.Entry] 28))
  (ho : Own wx W.heap.size 3 1 ci (.slice a m.Data.length c) m.Data) (hne : (Value.slice a m.Data.length c).ownBlock ≠ some g) : CopyHead m W (.pointer (some ⟨g, 0, none⟩)) wx :=
 ⟨g, a, c, _, rfl, ⟨hk, hg, hk.size, hB, ho.foot.imp fun _ h => Own.ints h, fun b hb => ho.row b hb, Own.nil _ _ _ _ _, hne, (fun e => by cases e), (fun _ _ e => by cases e), (fun _ h => h.elim), (fun h => h), (fun _ h => h.elim), (fun _ h => h.elim)⟩⟩
/-- how much an image's lists may take -/
structure ImgSmall (m : Img) : Prop where
 text : m.Text.length ≤ 140737488355328
 funs : m.Funcs.length * 32 ≤ 140737488355328
 tabs : ∀ t, t ∈ m.Tables → t.length * 8 ≤ 140737488355328
 tabsN : m.Tables.length * 24 ≤ 140737488355328
 data : m.Data.length * 8 ≤ 140737488355328
 lines : m.Lines.length * 16 ≤ 140737488355328
theorem nth_in {α : Type} [Inhabited α] {s : List α} {j : Nat} (h : j < s.length) : nth s j ∈ s := by rw [nth_eq _ _ h]; exact List.getElem_mem h
theorem imageCopy_any (v : Value) (m : Img) (w : World) (hv : ImgAt w v m) (hr : ImgSmall m) :
  Calls Tryd.prog 5 #[v] w (Gives (fun v' w' => ImgAt w' v' m) w) := by
 obtain ⟨v0, v1, v2, v3, v4, rfl, ⟨ao0, ca0, rfl, t01, t02, -, t03⟩, ⟨ao1, ca1, rfl, t11, t12, -, t13⟩, ⟨tv, ⟨ao2, ca2, rfl, t21, t22, -, t23⟩, rv⟩, a3, ⟨ao4, ca4, rfl, t41, t42, -, t43⟩⟩ := hv
 unfold maxLen at t02 t12 t22 t42
 obtain ⟨r0, r1, r2, r2n, r3, r4⟩ := hr
 obtain ⟨ao3, ca3, e3⟩ := Arr.form a3
 rw [e3] at a3 ⊢
 obtain ⟨W, hW, hkW, hB1, hB2, hsz⟩ : ∃ W : World, W = (w.alloc (.cells #[.slice ao0 m.Text.length ca0, .slice ao1 m.Funcs.length ca1, .slice ao2 m.Tables.length ca2, .slice ao3 m.Data.length ca3, .slice ao4 m.Lines.length ca4, .int .i64 m.Entry] 28)).alloc (.cells #[.slice none 0 0, .slice none 0 0, .slice none 0 0, .slice none 0 0, .slice none 0 0, .int .i64 0] 28) ∧ Keeps w W ∧ Blk W w.heap.size (.cells #[.slice ao0 m.Text.length ca0, .slice ao1 m.Funcs.length ca1, .slice ao2 m.Tables.length ca2, .slice ao3 m.Data.length ca3, .slice ao4 m.Lines.length ca4, .int .i64 m.Entry] 28) ∧ Blk W (w.heap.size + 1) (.cells #[.slice none 0 0, .slice none 0 0, .slice none 0 0, .slice none 0 0, .slice none 0 0, .int .i64 0] 28) ∧ W.heap.size = w.heap.size + 2 :=
  ⟨_, rfl, ((Keeps.refl w).alloc _).alloc _, (Blk.top _ _).keep ((Keeps.refl _).alloc _), Blk.top' _ _ (by rw [sz_alloc]), by rw [sz_alloc, sz_alloc]⟩
 have HW := Lib.hid hW
 have HSZ := Lib.hid hsz
 have HA3 := Lib.hid (Arr.keep a3 hkW)
 have i0 := hB1.cell (j := 0) rfl
 have i1 := hB1.cell (j := 1) rfl
 have i2 := hB1.cell (j := 2) rfl
 have i3 := hB1.cell (j := 3) rfl
 have i4 := hB1.cell (j := 4) rfl
 have i5 := hB1.cell (j := 5) rfl
 have HB2 := Lib.hid hB2
 clear hW hsz a3 e3 hB1 hB2
 go_enter Tryd.func5, Tryd.ntmps5
 go_upto_region 1 with fail
 rw [← HW.out]
 clear HW
 go_cut [3] (fun s3 wx => CopyHead m W s3 wx)
 case first =>
  go_region_held3 (fun w' => w'.cell? ⟨w.heap.size, 5, none⟩ = some (.int .i64 m.Entry) ∧ w'.cell? ⟨w.heap.size, 3, none⟩ = some (.slice ao3 m.Data.length ca3))
   (exact ⟨Keeps.cell (by repeat (with_reducible (first | assumption | exact Keeps.refl _ | refine Keeps.alloc ?_ _ | refine Keeps.drew ?_ | refine Keeps.drewN ?_ _ | refine Keeps.setCell ?_ (by (try dsimp only); first | omega | (simp only [sz_alloc]; omega) | (simp only [sz_drew]; omega) | (simp only [sz_alloc, sz_drew]; omega)) _ | refine Keeps.trans ?_ (by assumption)))) i5, Keeps.cell (by repeat (with_reducible (first | assumption | exact Keeps.refl _ | refine Keeps.alloc ?_ _ | refine Keeps.drew ?_ | refine Keeps.drewN ?_ _ | refine Keeps.setCell ?_ (by (try dsimp only); first | omega | (simp only [sz_alloc]; omega) | (simp only [sz_drew]; omega) | (simp only [sz_alloc, sz_drew]; omega)) _ | refine Keeps.trans ?_ (by assumption)))) i3⟩)
   ((go_at_call 13; refine (numsCopy_any _ m.Data _ (Arr.keep HA3.out (by repeat (with_reducible (first | assumption | exact Keeps.refl _ | refine Keeps.alloc ?_ _ | refine Keeps.drew ?_ | refine Keeps.drewN ?_ _)))) r3).mono ?_; rintro e W1 ⟨x3, rfl, hx3, hk1⟩; obtain ⟨ax, cx, rfl⟩ := own_form' hx3; (repeat' (first | (with_reducible replace hk1 := Keeps.undrew hk1) | (with_reducible replace hk1 := Keeps.undrewN hk1))); simp only [sz_drew] at hx3; have HX3 := Lib.hid hx3; have HK1 := Lib.hid hk1; clear hx3; obtain ⟨hc1, hf1⟩ := bcell hk1; have hz1 := hk1.size; (first | (with_reducible have hl1 := lt_top hk1; (try simp only [sz_drew, sz_drewN] at hl1)) | skip); (first | (with_reducible have hb1 := bcell_top hk1; (try simp only [sz_drew, sz_drewN] at hb1); obtain ⟨ht1, hu1⟩ := hb1) | skip)))
  ·go_wp2_with fail
   go_meet
   case rel =>
    exact copyHead_of (HK1.out.alloc _) HK1.out.size (Blk.top _ _) (HX3.out.keep ((Keeps.refl _).alloc _)) (fun e => absurd (own_lt' HX3.out e) (Nat.lt_irrefl _))
  ·go_wp2_with fail
   go_meet
   case rel =>
    have hk := ((Keeps.refl W).alloc _).trans HK1.out
    have hb := (Blk.top W _).keep HK1.out
    have ho := HX3.out
    rw [sz_alloc] at ho
    have hne : (Value.slice ax m.Data.length cx).ownBlock ≠ some W.heap.size := fun e => absurd (ho.row _ e) (by omega)
    have hg := grown_trans (grown_trans (grown_trans (grown_trans (grown_trans (grown_setCell W1 W.heap.size 0 (.slice none 0 0)) (grown_setCell _ W.heap.size 1 (.slice none 0 0))) (grown_setCell _ W.heap.size 2 (.slice none 0 0))) (grown_setCell _ W.heap.size 3 (.slice ax m.Data.length cx))) (grown_setCell _ W.heap.size 4 (.slice none 0 0))) (grown_setCell _ W.heap.size 5 (.int .i64 m.Entry))
    refine copyHead_of (Below.grown hk hg hk.size (by intro q e; cases e; exact Nat.le_refl _)) (Nat.le_refl _) ?_ (Own.mono (ho.other hg fun q hq e => hne (by rw [hq, e])) (by omega)) hne
    exact (((((hb.set 0 _).set 1 _).set 2 _).set 3 _).set 4 _).set 5 _
 case rest =>
  obtain ⟨g, ax, cx, S, rfl, hbl⟩ := hcut
  clear HA3
  obtain ⟨S0, hS0⟩ : ∃ S0 : Nat → Prop, S0 = S := ⟨_, rfl⟩
  obtain ⟨F0, hF0⟩ : ∃ F0 : World → Prop, F0 = (fun w => Ints w (.slice ax m.Data.length cx) m.Data) := ⟨_, rfl⟩
  rw [← hS0, ← hF0] at hbl
  have HF0 := Lib.hid hF0
  have HBL := Lib.hid hbl
  clear hbl hS0 hF0
  go_wp2_with fail
  go_loopw [4] (fun s wr => ∃ (k : Nat) (x : Value), k ≤ m.Text.length ∧ s = .int .i64 k ∧ Bld W.heap.size W g 28 (fun _ => False) S0 F0 5 1 cb #[x, .slice none 0 0, .slice none 0 0, .slice ax m.Data.length cx, .slice none 0 0, .int .i64 m.Entry] x (m.Text.take k) wr) (fun s _ => m.Text.length - (intOf s).toNat)
  case atStart => exact ⟨0, _, Nat.zero_le _, rfl, HBL.out⟩
  case round =>
   obtain ⟨k, x, hk, rfl, hb⟩ := hrel
   have hkr : Keeps W wr := hb.keep
   have hsw := hkr.size
   have j0 := hkr.cell i0
   have hlen : (m.Text.take k).length = k := by simp; omega
   obtain ⟨ax7, cx7, e7⟩ := own_form' hb.own
   rw [hlen] at e7
   subst e7
   have g0 := hb.blk.cell (j := 0) rfl
   have f0 := hb.blk.thawed 0
   have hgl := hb.blk.lt
   have HB := Lib.hid hb
   clear hb
   by_cases hlt : k < m.Text.length
   ·obtain ⟨b, off, rfl, hc⟩ := t03 (by omega)
    have c0 : wr.cell? ⟨b, off + k, none⟩ = some (.int .u8 ((nth m.Text k).toNat : Int)) := (hkW.trans hkr).cell (by simpa [Fu.c, Ln.c] using hc k 0 hlt (by omega))
    have HS := Lib.hid (take_succ_nth m.Text k hlt)
    clear hc t03
    go_wp2_with fail
    go_region_law ((refine step_push (by rfl) (.tmp 23) (.tmp 29) 22 (by rfl) Tryd.underlying22 info_u8 (by rfl) (by decide) (base := W.heap.size) (f := cb) (l := m.Text.take k) (by rfl) (by exact HB.out.own.keep (by repeat (with_reducible (first | assumption | exact Keeps.refl _ | refine Keeps.alloc ?_ _ | refine Keeps.drew ?_ | refine Keeps.drewN ?_ _ | refine Keeps.trans' ?_ (by assumption) (by assumption))))) (nth m.Text k) _ _ (by rfl) (by exact Blk.top' _ _ (by first | rfl | simp)) cb_len cb_one (by rw [hlen]; omega) (by rw [hlen]; unfold maxLen; omega) (by first | omega | (simp only [sz_alloc]; omega) | (simp only [sz_drew]; omega) | (simp only [sz_alloc, sz_drew]; omega) | (simp only [sz_alloc, sz_drewN]; omega)) ?_; intro v7 w7 hown7 hbel7 hgr7 hfr7; obtain ⟨a7, c7, rfl⟩ := own_form' hown7; have hB7 := Blk.grown (Blk.keep HB.out.blk (by repeat (with_reducible (first | assumption | exact Keeps.refl _ | refine Keeps.alloc ?_ _ | refine Keeps.drew ?_ | refine Keeps.drewN ?_ _ | refine Keeps.trans' ?_ (by assumption) (by assumption))))) hgr7 (fun e => HB.out.vg e.symm); have hc7 := hB7.cell (j := 0) rfl; have hf7 := hB7.thawed 0; have hl7 := hB7.lt; have HB7 := Lib.hid hB7; have HO7 := Lib.hid hown7; have HG7 := Lib.hid hgr7; have HF7 := Lib.hid hfr7; clear hB7 hown7 hbel7 hgr7 hfr7))
    all_goals
     go_wp2_with fail
     go_roundw
     case rel =>
      have hp := Bld.push HB.out (by repeat (with_reducible (first | assumption | exact Keeps.refl _ | refine Keeps.alloc ?_ _ | refine Keeps.drew ?_ | refine Keeps.drewN ?_ _))) HO7.out HG7.out HF7.out 0
      rw [← HS.out, show (m.Text.take (k + 1)).length = k + 1 by simp; omega] at hp
      exact ⟨k + 1, _, by omega, by go_num, hp⟩
     case measure => simp [intOf]; omega
   ·obtain rfl : k = m.Text.length := by omega
    rw [List.take_length] at HB
    clear g0 f0
    have hnx := (HB.out.next (β := Fu) (e' := 47) (k' := 3) (f' := cfu))
    obtain ⟨S1, hS1⟩ : ∃ Sx : Nat → Prop, Sx = (fun b => S0 b ∨ (Value.slice ax7 m.Text.length cx7).ownBlock = some b) := ⟨_, rfl⟩
    obtain ⟨F1, hF1⟩ : ∃ Fx : World → Prop, Fx = (fun w => F0 w ∧ Own w W.heap.size 5 1 cb (.slice ax7 m.Text.length cx7) m.Text) := ⟨_, rfl⟩
    rw [← hS1, ← hF1] at hnx
    have HF1 := Lib.hid hF1
    have HBL := Lib.hid hnx
    clear hnx hS1 hF1 HB
    obtain ⟨ax0, rfl⟩ : ∃ q, q = ax7 := ⟨_, rfl⟩
    obtain ⟨cx0, rfl⟩ : ∃ q, q = cx7 := ⟨_, rfl⟩
    go_wp2_with fail
    go_loopw [5] (fun s wr => ∃ (k : Nat) (x : Value), k ≤ m.Funcs.length ∧ s = .int .i64 k ∧ Bld W.heap.size W g 28 (fun _ => False) S1 F1 47 3 cfu #[.slice ax0 m.Text.length cx0, x, .slice none 0 0, .slice ax m.Data.length cx, .slice none 0 0, .int .i64 m.Entry] x (m.Funcs.take k) wr) (fun s _ => m.Funcs.length - (intOf s).toNat)
    case atStart => exact ⟨0, _, Nat.zero_le _, rfl, HBL.out⟩
    case round =>
     obtain ⟨k, x, hk, rfl, hb⟩ := hrel
     have hkr : Keeps W wr := hb.keep
     have hsw := hkr.size
     have j1 := hkr.cell i1
     have hlen : (m.Funcs.take k).length = k := by simp; omega
     obtain ⟨ax7, cx7, e7⟩ := own_form' hb.own
     rw [hlen] at e7
     subst e7
     have g1 := hb.blk.cell (j := 1) rfl
     have f1 := hb.blk.thawed 1
     have hgl := hb.blk.lt
     have HB := Lib.hid hb
     clear hb
     by_cases hlt : k < m.Funcs.length
     ·obtain ⟨b, off, rfl, hc⟩ := t13 (by omega)
      have c0 : wr.cell? ⟨b, off + k * 3, none⟩ = some (.string (nth m.Funcs k).Name) := (hkW.trans hkr).cell (by simpa [Fu.c, Ln.c] using hc k 0 hlt (by omega))
      have c1 : wr.cell? ⟨b, off + k * 3 + 1, none⟩ = some (.int .i64 (nth m.Funcs k).Start) := (hkW.trans hkr).cell (by simpa [Fu.c, Ln.c] using hc k 1 hlt (by omega))
      have c2 : wr.cell? ⟨b, off + k * 3 + 2, none⟩ = some (.int .i64 (nth m.Funcs k).Size) := (hkW.trans hkr).cell (by simpa [Fu.c, Ln.c] using hc k 2 hlt (by omega))
      have HS := Lib.hid (take_succ_nth m.Funcs k hlt)
      clear hc t13
      go_wp2_with fail
      go_region_law ((refine step_push (by rfl) (.tmp 40) (.tmp 46) 23 (by rfl) Tryd.underlying23 info_fun (by rfl) (by decide) (base := W.heap.size) (f := cfu) (l := m.Funcs.take k) (by rfl) (by exact HB.out.own.keep (by repeat (with_reducible (first | assumption | exact Keeps.refl _ | refine Keeps.alloc ?_ _ | refine Keeps.drew ?_ | refine Keeps.drewN ?_ _ | refine Keeps.trans' ?_ (by assumption) (by assumption))))) (nth m.Funcs k) _ _ (by rfl) (by exact Blk.top' _ _ (by first | rfl | simp)) cfu_len cfu_one (by rw [hlen]; omega) (by rw [hlen]; unfold maxLen; omega) (by first | omega | (simp only [sz_alloc]; omega) | (simp only [sz_drew]; omega) | (simp only [sz_alloc, sz_drew]; omega) | (simp only [sz_alloc, sz_drewN]; omega)) ?_; intro v7 w7 hown7 hbel7 hgr7 hfr7; obtain ⟨a7, c7, rfl⟩ := own_form' hown7; have hB7 := Blk.grown (Blk.keep HB.out.blk (by repeat (with_reducible (first | assumption | exact Keeps.refl _ | refine Keeps.alloc ?_ _ | refine Keeps.drew ?_ | refine Keeps.drewN ?_ _ | refine Keeps.trans' ?_ (by assumption) (by assumption))))) hgr7 (fun e => HB.out.vg e.symm); have hc7 := hB7.cell (j := 1) rfl; have hf7 := hB7.thawed 1; have hl7 := hB7.lt; have HB7 := Lib.hid hB7; have HO7 := Lib.hid hown7; have HG7 := Lib.hid hgr7; have HF7 := Lib.hid hfr7; clear hB7 hown7 hbel7 hgr7 hfr7))
      all_goals
       go_wp2_with fail
       go_roundw
       case rel =>
        have hp := Bld.push HB.out (by repeat (with_reducible (first | assumption | exact Keeps.refl _ | refine Keeps.alloc ?_ _ | refine Keeps.drew ?_ | refine Keeps.drewN ?_ _))) HO7.out HG7.out HF7.out 1
        rw [← HS.out, show (m.Funcs.take (k + 1)).length = k + 1 by simp; omega] at hp
        exact ⟨k + 1, _, by omega, by go_num, hp⟩
       case measure => simp [intOf]; omega
     ·obtain rfl : k = m.Funcs.length := by omega
      rw [List.take_length] at HB
      clear g1 f1
      have hnx := (HB.out.next (β := Sle) (e' := 25) (k' := 1) (f' := sle))
      obtain ⟨S2, hS2⟩ : ∃ Sx : Nat → Prop, Sx = (fun b => S1 b ∨ (Value.slice ax7 m.Funcs.length cx7).ownBlock = some b) := ⟨_, rfl⟩
      obtain ⟨F2, hF2⟩ : ∃ Fx : World → Prop, Fx = (fun w => F1 w ∧ Own w W.heap.size 47 3 cfu (.slice ax7 m.Funcs.length cx7) m.Funcs) := ⟨_, rfl⟩
      rw [← hS2, ← hF2] at hnx
      have HF2 := Lib.hid hF2
      have HBL := Lib.hid hnx
      clear hnx hS2 hF2 HB
      obtain ⟨ax1, rfl⟩ : ∃ q, q = ax7 := ⟨_, rfl⟩
      obtain ⟨cx1, rfl⟩ : ∃ q, q = cx7 := ⟨_, rfl⟩
      go_wp2_with fail
      go_loopw [6] (fun s wr => ∃ (k : Nat) (x : Value) (vs : List Sle) (S' : Nat → Prop), k ≤ m.Tables.length ∧ s = .int .i64 k ∧ Bld W.heap.size W g 28 (fun _ => False) S' (fun w => F2 w ∧ RowsAt vs (m.Tables.take k) w) 25 1 sle #[.slice ax0 m.Text.length cx0, .slice ax1 m.Funcs.length cx1, x, .slice ax m.Data.length cx, .slice none 0 0, .int .i64 m.Entry] x vs wr) (fun s _ => m.Tables.length - (intOf s).toNat)
      case atStart => exact ⟨0, _, [], _, Nat.zero_le _, rfl, HBL.out.weak fun w h => ⟨h, rowsAt_nil w⟩⟩
      case round =>
       obtain ⟨k, x, vs, S', hk, rfl, hb⟩ := hrel
       have hkr : Keeps W wr := hb.keep
       have hsw := hkr.size
       have j2 := hkr.cell i2
       have hlen : vs.length = k := by rw [hb.foot.here.2.1]; simp; omega
       obtain ⟨ax7, cx7, e7⟩ := own_form' hb.own
       rw [hlen] at e7
       subst e7
       have g2 := hb.blk.cell (j := 2) rfl
       have f2 := hb.blk.thawed 2
       have hgl := hb.blk.lt
       have HB := Lib.hid hb
       clear hb
       by_cases hlt : k < m.Tables.length
       ·obtain ⟨b, off, rfl, hc⟩ := t23 (by omega)
        have c0 : wr.cell? ⟨b, off + k, none⟩ = some (tv k) := (hkW.trans hkr).cell (by simpa using hc k 0 hlt (by omega))
        have hT : Ints wr (tv k) (nth m.Tables k) := Arr.keep (rv k hlt) (hkW.trans hkr)
        obtain ⟨ao5, c5, e5⟩ := Arr.form hT
        rw [e5] at c0 hT
        have HT := Lib.hid hT
        have hrk := r2 _ (nth_in hlt)
        have HS := Lib.hid (take_succ_nth m.Tables k hlt)
        generalize nth m.Tables k = tk at *
        clear hc t23 rv e5 hT
        go_wp2_with fail
        refine (numsCopy_any _ tk _ HT.out hrk).mono ?_
        rintro e w1 ⟨x5, rfl, hx5, hk1⟩
        obtain ⟨a5, cc5, rfl⟩ := own_form' hx5
        have HB1 := Lib.hid (HB.out.keeps hk1)
        have g2 := HB1.out.blk.cell (j := 2) rfl
        have f2 := HB1.out.blk.thawed 2
        have hgl := HB1.out.blk.lt
        have HX5 := Lib.hid hx5
        have HK1 := Lib.hid hk1
        have hs1 := hk1.size
        clear hx5 hk1 j2 c0
        go_wp2_with (at_builtin; refine wpList_pushes (by rfl) (.tmp 63) (.tmp 65) 24 (by rfl) Tryd.underlying24 info_ints (by rfl) (by decide) (base := W.heap.size) (f := sle) (l := vs) (by rfl) (by exact HB1.out.own.keep (by repeat (with_reducible (first | assumption | exact Keeps.refl _ | refine Keeps.alloc ?_ _ | refine Keeps.drew ?_ | refine Keeps.drewN ?_ _ | refine Keeps.trans' ?_ (by assumption) (by assumption))))) [⟨a5, tk.length, cc5⟩] _ _ (by rfl) (by exact Blk.top' _ _ (by first | rfl | simp)) sle_len sle_one (by rw [hlen]; simp; omega) (by rw [hlen]; simp [maxLen]; omega) (by first | omega | (simp only [sz_alloc]; omega) | (simp only [sz_drew]; omega) | (simp only [sz_alloc, sz_drew]; omega) | (simp only [sz_alloc, sz_drewN]; omega)) ?_; intro v7 w7 hown7 hbel7 hgr7 hfr7; obtain ⟨a7, c7, rfl⟩ := own_form' hown7; have hB7 := Blk.grown (Blk.keep HB1.out.blk (by repeat (with_reducible (first | assumption | exact Keeps.refl _ | refine Keeps.alloc ?_ _ | refine Keeps.drew ?_ | refine Keeps.drewN ?_ _ | refine Keeps.trans' ?_ (by assumption) (by assumption))))) hgr7 (fun e => HB1.out.vg e.symm); have hc7 := hB7.cell (j := 2) rfl; have hf7 := hB7.thawed 2; have hl7 := hB7.lt; have HB7 := Lib.hid hB7; have HO7 := Lib.hid hown7; have HG7 := Lib.hid hgr7; have HF7 := Lib.hid hfr7; clear hB7 hown7 hbel7 hgr7 hfr7)
        go_wp2_with fail
        go_roundw
        case rel =>
         have hrow := HX5.out.foot
         have hj := (HB1.out.join (hrow.imp fun _ h => Own.ints h) (fun b hb => Nat.le_trans hsw (HX5.out.row b hb)) (fun e => by have := HX5.out.row _ e; have := HB.out.blk.lt; omega) (fun b hb e => by have := HX5.out.row _ hb; have := own_lt' HB.out.own e; omega) (fun _ h => h.elim))
         have hp := (hj.push (by repeat (with_reducible (first | assumption | exact Keeps.refl _ | refine Keeps.alloc ?_ _ | refine Keeps.drew ?_ | refine Keeps.drewN ?_ _))) HO7.out HG7.out HF7.out 2).weak (G := fun w => F2 w ∧ RowsAt (vs ++ [⟨a5, tk.length, cc5⟩]) (m.Tables.take (k + 1)) w) (fun w h => ⟨h.1.1, by rw [HS.out]; exact rowsAt_snoc h.1.2 h.2⟩)
         rw [show (vs ++ [(⟨a5, tk.length, cc5⟩ : Sle)]).length = k + 1 by simp [hlen]] at hp
         exact ⟨k + 1, _, _, _, by omega, by go_num, hp⟩
        case measure => simp [intOf]; omega
       ·obtain rfl : k = m.Tables.length := by omega
        rw [List.take_length] at HB
        clear g2 f2
        have hnx := (HB.out.next (β := Ln) (e' := 49) (k' := 2) (f' := cln))
        obtain ⟨S3, hS3⟩ : ∃ Sx : Nat → Prop, Sx = (fun b => S' b ∨ (Value.slice ax7 m.Tables.length cx7).ownBlock = some b) := ⟨_, rfl⟩
        obtain ⟨F3, hF3⟩ : ∃ Fx : World → Prop, Fx = (fun w => (F2 w ∧ RowsAt vs m.Tables w) ∧ Own w W.heap.size 25 1 sle (.slice ax7 m.Tables.length cx7) vs) := ⟨_, rfl⟩
        rw [← hS3, ← hF3] at hnx
        have HF3 := Lib.hid hF3
        have HBL := Lib.hid hnx
        clear hnx hS3 hF3 HB
        obtain ⟨ax2, rfl⟩ : ∃ q, q = ax7 := ⟨_, rfl⟩
        obtain ⟨cx2, rfl⟩ : ∃ q, q = cx7 := ⟨_, rfl⟩
        go_wp2_with fail
        go_loopw [8] (fun s wr => ∃ (k : Nat) (x : Value), k ≤ m.Lines.length ∧ s = .int .i64 k ∧ Bld W.heap.size W g 28 (fun _ => False) S3 F3 49 2 cln #[.slice ax0 m.Text.length cx0, .slice ax1 m.Funcs.length cx1, .slice ax2 m.Tables.length cx2, .slice ax m.Data.length cx, x, .int .i64 m.Entry] x (m.Lines.take k) wr) (fun s _ => m.Lines.length - (intOf s).toNat)
        case atStart => exact ⟨0, _, Nat.zero_le _, rfl, HBL.out⟩
        case round =>
         obtain ⟨k, x, hk, rfl, hb⟩ := hrel
         have hkr : Keeps W wr := hb.keep
         have hsw := hkr.size
         have j4 := hkr.cell i4
         have hlen : (m.Lines.take k).length = k := by simp; omega
         obtain ⟨ax7, cx7, e7⟩ := own_form' hb.own
         rw [hlen] at e7
         subst e7
         have g4 := hb.blk.cell (j := 4) rfl
         have f4 := hb.blk.thawed 4
         have hgl := hb.blk.lt
         have HB := Lib.hid hb
         clear hb
         by_cases hlt : k < m.Lines.length
         ·obtain ⟨b, off, rfl, hc⟩ := t43 (by omega)
          have c0 : wr.cell? ⟨b, off + k * 2, none⟩ = some (.int .i64 (nth m.Lines k).At) := (hkW.trans hkr).cell (by simpa [Fu.c, Ln.c] using hc k 0 hlt (by omega))
          have c1 : wr.cell? ⟨b, off + k * 2 + 1, none⟩ = some (.int .i64 (nth m.Lines k).N) := (hkW.trans hkr).cell (by simpa [Fu.c, Ln.c] using hc k 1 hlt (by omega))
          have HS := Lib.hid (take_succ_nth m.Lines k hlt)
          clear hc t43
          go_wp2_with fail
          go_region_law ((refine step_push (by rfl) (.tmp 76) (.tmp 82) 26 (by rfl) Tryd.underlying26 info_line (by rfl) (by decide) (base := W.heap.size) (f := cln) (l := m.Lines.take k) (by rfl) (by exact HB.out.own.keep (by repeat (with_reducible (first | assumption | exact Keeps.refl _ | refine Keeps.alloc ?_ _ | refine Keeps.drew ?_ | refine Keeps.drewN ?_ _ | refine Keeps.trans' ?_ (by assumption) (by assumption))))) (nth m.Lines k) _ _ (by rfl) (by exact Blk.top' _ _ (by first | rfl | simp)) cln_len cln_one (by rw [hlen]; omega) (by rw [hlen]; unfold maxLen; omega) (by first | omega | (simp only [sz_alloc]; omega) | (simp only [sz_drew]; omega) | (simp only [sz_alloc, sz_drew]; omega) | (simp only [sz_alloc, sz_drewN]; omega)) ?_; intro v7 w7 hown7 hbel7 hgr7 hfr7; obtain ⟨a7, c7, rfl⟩ := own_form' hown7; have hB7 := Blk.grown (Blk.keep HB.out.blk (by repeat (with_reducible (first | assumption | exact Keeps.refl _ | refine Keeps.alloc ?_ _ | refine Keeps.drew ?_ | refine Keeps.drewN ?_ _ | refine Keeps.trans' ?_ (by assumption) (by assumption))))) hgr7 (fun e => HB.out.vg e.symm); have hc7 := hB7.cell (j := 4) rfl; have hf7 := hB7.thawed 4; have hl7 := hB7.lt; have HB7 := Lib.hid hB7; have HO7 := Lib.hid hown7; have HG7 := Lib.hid hgr7; have HF7 := Lib.hid hfr7; clear hB7 hown7 hbel7 hgr7 hfr7))
          all_goals
           go_wp2_with fail
           go_roundw
           case rel =>
            have hp := Bld.push HB.out (by repeat (with_reducible (first | assumption | exact Keeps.refl _ | refine Keeps.alloc ?_ _ | refine Keeps.drew ?_ | refine Keeps.drewN ?_ _))) HO7.out HG7.out HF7.out 4
            rw [← HS.out, show (m.Lines.take (k + 1)).length = k + 1 by simp; omega] at hp
            exact ⟨k + 1, _, by omega, by go_num, hp⟩
           case measure => simp [intOf]; omega
         ·obtain rfl : k = m.Lines.length := by omega
          rw [List.take_length] at HB
          clear g4 f4
          have D2 : Blk wr (w.heap.size + 1) (.cells #[.slice none 0 0, .slice none 0 0, .slice none 0 0, .slice none 0 0, .slice none 0 0, .int .i64 0] 28) := HB2.out.keep hkr
          have q0 := HB.out.blk.cell (j := 0) rfl
          have d0 := D2.cell (j := 0) rfl
          have u0 := D2.thawed 0
          have q1 := HB.out.blk.cell (j := 1) rfl
          have d1 := D2.cell (j := 1) rfl
          have u1 := D2.thawed 1
          have q2 := HB.out.blk.cell (j := 2) rfl
          have d2 := D2.cell (j := 2) rfl
          have u2 := D2.thawed 2
          have q3 := HB.out.blk.cell (j := 3) rfl
          have d3 := D2.cell (j := 3) rfl
          have u3 := D2.thawed 3
          have q4 := HB.out.blk.cell (j := 4) rfl
          have d4 := D2.cell (j := 4) rfl
          have u4 := D2.thawed 4
          have q5 := HB.out.blk.cell (j := 5) rfl
          have d5 := D2.cell (j := 5) rfl
          have u5 := D2.thawed 5
          have HD2 := Lib.hid D2
          have hgw : W.heap.size ≤ g := HB.out.Bg
          have hneg : w.heap.size + 1 ≠ g := by have := HSZ.out; omega
          have h21 : w.heap.size + 1 < W.heap.size := by have := HSZ.out; omega
          have h22 : w.heap.size + 1 < wr.heap.size := by omega
          clear D2
          go_wp2_with fail
          obtain ⟨wf, hwf⟩ : ∃ wf : World, wf = ((((((wr.setCell ⟨w.heap.size + 1, 0, none⟩ (.slice ax0 m.Text.length cx0)).setCell ⟨w.heap.size + 1, 1, none⟩ (.slice ax1 m.Funcs.length cx1)).setCell ⟨w.heap.size + 1, 2, none⟩ (.slice ax2 m.Tables.length cx2)).setCell ⟨w.heap.size + 1, 3, none⟩ (.slice ax m.Data.length cx)).setCell ⟨w.heap.size + 1, 4, none⟩ (.slice ax7 m.Lines.length cx7)).setCell ⟨w.heap.size + 1, 5, none⟩ (.int .i64 m.Entry)) := ⟨_, rfl⟩
          rw [← hwf]
          have hBf : Blk wf (w.heap.size + 1) (.cells #[.slice ax0 m.Text.length cx0, .slice ax1 m.Funcs.length cx1, .slice ax2 m.Tables.length cx2, .slice ax m.Data.length cx, .slice ax7 m.Lines.length cx7, .int .i64 m.Entry] 28) := by
           rw [hwf]
           exact (((((HD2.out.set 0 _).set 1 _).set 2 _).set 3 _).set 4 _).set 5 _
          have hset : wr.grownBy wf (some (w.heap.size + 1)) := by
           rw [hwf]
           exact grown_trans (grown_trans (grown_trans (grown_trans (grown_trans (grown_setCell _ _ _ _) (grown_setCell _ _ _ _)) (grown_setCell _ _ _ _)) (grown_setCell _ _ _ _)) (grown_setCell _ _ _ _)) (grown_setCell _ _ _ _)
          have Kr : Keeps w wr := hkW.trans hkr
          have Kf : Keeps w wf := Below.grown Kr hset Kr.size (by intro q e; cases e; omega)
          have hF := (HB.out.foot.and HB.out.own.foot).grown hset (fun b hb e => by
           cases e
           rcases hb with hb | hb
           ·have := HB.out.SB _ hb; omega
           ·have := HB.out.own.row _ hb; omega)
          have hh := hF.here
          rw [HF3.out, HF2.out, HF1.out, HF0.out] at hh
          obtain ⟨⟨⟨⟨⟨hD, hT0⟩, hF1'⟩, hRows⟩, hTb⟩, hL4⟩ := hh
          have HI : ImgAt wf (.agg #[.slice ax0 m.Text.length cx0, .slice ax1 m.Funcs.length cx1, .slice ax2 m.Tables.length cx2, .slice ax m.Data.length cx, .slice ax7 m.Lines.length cx7, .int .i64 m.Entry]) m := ⟨_, _, _, _, _, rfl, hT0.bytes, hF1'.funs, tabs_of hTb hRows, hD, hL4.lines⟩
          have HZ := Lib.hid HI
          have e0 := hBf.cell (j := 0) rfl
          have e1 := hBf.cell (j := 1) rfl
          have e2 := hBf.cell (j := 2) rfl
          have e3 := hBf.cell (j := 3) rfl
          have e4 := hBf.cell (j := 4) rfl
          have e5 := hBf.cell (j := 5) rfl
          clear hwf hBf hset hF hD hT0 hF1' hRows hTb hL4 HI q0 d0 u0 q1 d1 u1 q2 d2 u2 q3 d3 u3 q4 d4 u4 q5 d5 u5
          exact bodyPost_ret (v := .agg #[.slice ax0 m.Text.length cx0, .slice ax1 m.Funcs.length cx1, .slice ax2 m.Tables.length cx2, .slice ax m.Data.length cx, .slice ax7 m.Lines.length cx7, .int .i64 m.Entry]) (by simp [results, Tryd.results5, go_sem, e0, e1, e2, e3, e4, e5]) rfl ⟨_, rfl, HZ.out, Kf⟩
end Go.Proofs.YtnekiooaobnndaaDoor
