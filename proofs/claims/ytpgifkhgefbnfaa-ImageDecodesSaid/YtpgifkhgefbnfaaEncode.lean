/-
  image.Encode: the bytes of an image.
-/
import Derived.Test.YtpgifkhgefbnfaaWriter
import Derived.Test.YtpgifkhgefbnfaaImgCheck
import Derived.Test.YtpgifkhgefbnfaaFlowCore
import Derived.Deep.DeepCutAuto
import Derived.Lib.SlBytesConst
namespace Go.Proofs.Ytpgifkhgefbnfaa
open Go.RowKit BH
set_option maxHeartbeats 4000000
set_option maxRecDepth 100000

/-- what was boxed ahead of a call lies there still -/
theorem blk_after {w W' : World} {o : Obj} (h : Keeps (w.alloc o) W') : Blk W' w.heap.size o := (Blk.top w o).keep h
/-- the writer, made: the sign is written -/
theorem writer_made (w : World) : ∃ W : World, W = (w.alloc (.cells #[.int .u8 98, .int .u8 104, .int .u8 49, .int .u8 10] 5 (4, 5))).alloc (.cells #[.slice (some ⟨w.heap.size, 0, none⟩) 4 4] 61) ∧ WrBegin w.heap.size w w.heap.size (w.heap.size + 1) W :=
  ⟨_, rfl, ((Keeps.refl w).alloc _).alloc _, Nat.le_refl _, by omega, (Blk.top w _).keep ((Keeps.refl _).alloc _), Blk.top' _ _ (by rw [sz_alloc])⟩
theorem src_octs {P : Program} {w : World} {tx e : TypeId} (htx : P.underlying tx = some (.slice e)) {x : Value} {l : List UInt8} (h : Bytes w x l) : Src P 1 tx x (octL l).length ((octL l).flatMap cu) w :=
  src_arr (by decide) cu_len cu_one htx (bytes_octs h)
theorem src_name {P : Program} {w : World} {tx : TypeId} (hk : P.underlying tx = some .string) (s : ByteArray) : Src P 1 tx (.string s) (octL s.data.toList).length ((octL s.data.toList).flatMap cu) w := by
  have h := src_string (w := w) hk s
  rw [cb_cu, ← octL_len] at h
  exact h
theorem nameOk_size {s : ByteArray} (h : nameOk s = true) : s.size ≤ 16 := by
  unfold nameOk at h
  rw [Bool.and_eq_true, decide_eq_true_eq] at h
  exact h.1.2
theorem flatMap_bound {α : Type} (f : α → List Int) (n : Nat) : ∀ l : List α, (∀ x, x ∈ l → (f x).length ≤ n) → (l.flatMap f).length ≤ l.length * n
  | [], _ => by simp
  | x :: l, h => by
    have h1 := h x (by simp)
    have h2 := flatMap_bound f n l fun y hy => h y (by simp [hy])
    rw [List.flatMap_cons, List.length_append, List.length_cons, Nat.add_mul]
    omega

/-- image.Encode of an image with a fault -/
theorem encode_bad (v : Value) (m : Img) (w : World) (hv : ImgAt w v m) (hF : imgFault m ≠ 0) :
    Calls Try.prog 8 #[v] w (GivesN (fun v' w' => Octs w' v' []) (imgFault m) w) := by
  have hC := fun W (hk : Keeps w W) => imgCheck_any v m W (hv.keep hk)
  have HC := Lib.hid hC
  obtain ⟨v0, v1, v2, v3, v4, rfl, -⟩ := hv
  generalize imgFault m = F at HC hF ⊢
  have q : (F != 0) = true := by simpa using hF
  clear hF hC
  go_enter Try.func8, Try.ntmps8
  go_wp2_with fail
  refine (HC.out _ ((Keeps.refl w).alloc _)).mono ?_
  rintro e w1 ⟨rfl, hk1⟩
  go_wp2_with fail
  go_ret2
  exact ⟨_, rfl, ⟨none, 0, rfl, Nat.le_refl _, by unfold maxLen; omega, fun _ => rfl, fun h => absurd h (Nat.lt_irrefl _)⟩, ((Keeps.refl _).alloc _).trans hk1⟩
theorem encode_ok (v : Value) (m : Img) (w : World) (hv : ImgAt w v m) (hF : imgFault m = 0) :
    Calls Try.prog 8 #[v] w (GivesN (fun v' w' => Octs w' v' (imgB m)) 0 w) := by
  have hg := imgGood m hF
  have hC := fun W (hk : Keeps w W) => imgCheck_any v m W (hv.keep hk)
  rw [hF] at hC
  have HC := Lib.hid hC
  have HG := Lib.hid hg
  have r0 := hg.text
  have r1 := hg.funcs
  have r2 := hg.tabs
  have r3 := hg.data
  have r4 := hg.lines
  have HI := Lib.hid (show imgB m = ([98, 104, 49, 10] ++ bigB (m.Text.length : Nat) 2 ++ octL m.Text ++ bigB (m.Funcs.length : Nat) 1 ++ m.Funcs.flatMap funB ++ bigB m.Entry 1 ++ bigB (m.Tables.length : Nat) 1 ++ m.Tables.flatMap tabB ++ bigB (m.Data.length : Nat) 1 ++ (m.Data.flatMap fun n => bigB n 8) ++ bigB (m.Lines.length : Nat) 2 ++ m.Lines.flatMap lineB) from rfl)
  obtain ⟨v0, v1, v2, v3, v4, rfl, a0, ⟨ao1, ca1, rfl, t11, t12, -, t13⟩, ⟨tv, ⟨ao2, ca2, rfl, t21, t22, -, t23⟩, rv⟩, ⟨ao3, ca3, rfl, t31, t32, -, t33⟩, ⟨ao4, ca4, rfl, t41, t42, -, t43⟩⟩ := hv
  unfold maxLen at t12 t22 t32 t42
  obtain ⟨ao0, ca0, e0⟩ := Arr.form a0
  subst e0
  have HA0 := Lib.hid a0
  clear a0 hg hF hC
  have kc := fun (w : World) (C : Array Value) (n c : Nat) => Lib.run_convert_bytes_const (P := Try.prog) w 22 5 C n c Try.underlying22 Try.underlying5
  go_enter Try.func8, Try.ntmps8
  go_wp2_with fail
  refine (HC.out _ ((Keeps.refl w).alloc _)).mono ?_
  rintro e w2 ⟨rfl, hk2⟩
  have hB2 := blk_after hk2
  have hkw : Keeps w w2 := ((Keeps.refl _).alloc _).trans hk2
  have i0 := hB2.cell (j := 0) rfl
  have i1 := hB2.cell (j := 1) rfl
  have i2 := hB2.cell (j := 2) rfl
  have i3 := hB2.cell (j := 3) rfl
  have i4 := hB2.cell (j := 4) rfl
  have i5 := hB2.cell (j := 5) rfl
  have hbx := hB2.lt
  obtain ⟨w3, hw3, hwr3⟩ := writer_made w2
  have HW3 := Lib.hid hw3
  have HR3 := Lib.hid hwr3
  clear hB2 hk2 HC hw3
  go_upto_region 5 with fail
  rw [← HW3.out]
  have k3 : Keeps w2 w3 := hwr3.1
  have j0 := k3.cell i0
  clear hwr3 HW3
  go_wp2_with fail
  refine (number_first _ _ _ _ (m.Text.length : Nat) _ HR3.out).mono ?_
  rintro e w4 ⟨rfl, hr⟩
  have HR := Lib.hid hr
  have k4 : Keeps w2 w4 := hr.below
  have hs4 := k4.size
  obtain ⟨x4, hb⟩ := hr
  obtain ⟨ax, cx, ex⟩ := own_form' hb.own
  subst ex
  have g0 := hb.blk.cell (j := 0) rfl
  have f0 := hb.blk.thawed 0
  have hgl := hb.blk.lt
  have j0 := k4.cell i0
  have hlen : ([98, 104, 49, 10] ++ bigB (m.Text.length : Nat) 2).length ≤ 6 := by simp [bigB_len]
  obtain ⟨L4, hL4⟩ : ∃ L, L = [98, 104, 49, 10] ++ bigB (m.Text.length : Nat) 2 := ⟨_, rfl⟩
  rw [← hL4] at hb g0 HR hlen
  have HB := Lib.hid hb
  have HL4 := Lib.hid hL4
  clear hb hL4 HR3 k3
  go_upto_region 6 with fail
  go_cut [] (fun wx => WrAt w2.heap.size w2 (w2.heap.size + 1) (fun _ => False) (fun _ => True) (L4 ++ octL m.Text) wx)
  case first =>
    go_region_law ((refine step_onto (by rfl) (.tmp 34) (.tmp 36) 22 22 (by rfl) Try.underlying22 info_u8 (by rfl) (base := w2.heap.size) (f := cu) (l := L4) (by rfl) (by exact HB.out.own.keep (by repeat (with_reducible (first | assumption | exact Keeps.refl _ | refine Keeps.alloc ?_ _ | refine Keeps.drew ?_ | refine Keeps.drewN ?_ _ | refine Keeps.trans' ?_ (by assumption) (by assumption))))) (ys := octL m.Text) (by rfl) (by exact src_octs Try.underlying22 (Arr.keep HA0.out (hkw.trans (k4.trans (by repeat (with_reducible (first | assumption | exact Keeps.refl _ | refine Keeps.alloc ?_ _ | refine Keeps.drew ?_ | refine Keeps.drewN ?_ _))))))) (by rw [octL_len]; omega) (by rw [octL_len]; unfold maxLen; omega) (by first | omega | (simp only [sz_alloc]; omega) | (simp only [sz_drew]; omega) | (simp only [sz_alloc, sz_drew]; omega) | (simp only [sz_alloc, sz_drewN]; omega)) ?_; intro v7 w7 hown7 hbel7 hgr7 hfr7; obtain ⟨a7, c7, rfl⟩ := own_form' hown7; have hB7 := Blk.grown (Blk.keep HB.out.blk (by repeat (with_reducible (first | assumption | exact Keeps.refl _ | refine Keeps.alloc ?_ _ | refine Keeps.drew ?_ | refine Keeps.drewN ?_ _ | refine Keeps.trans' ?_ (by assumption) (by assumption))))) hgr7 (fun e => HB.out.vg e.symm); have hc7 := hB7.cell (j := 0) rfl; have hf7 := hB7.thawed 0; have hl7 := hB7.lt; have HB7 := Lib.hid hB7; have HO7 := Lib.hid hown7; have HG7 := Lib.hid hgr7; have HF7 := Lib.hid hfr7; clear hB7 hown7 hbel7 hgr7 hfr7))
    all_goals
      go_wp2_with fail
      go_meet
      case rel =>
        have hp := Bld.push HB.out (by repeat (with_reducible (first | assumption | exact Keeps.refl _ | refine Keeps.alloc ?_ _ | refine Keeps.drew ?_ | refine Keeps.drewN ?_ _))) HO7.out HG7.out HF7.out 0
        rw [List.length_append] at hp
        exact ⟨_, hp⟩
  case rest =>
    have HR := Lib.hid hcut
    have k5 : Keeps w2 wc := hcut.below
    have j1 := k5.cell i1
    clear hcut HB g0 f0 hgl j0
    have hlen5 : (L4 ++ octL m.Text).length ≤ 8006 := by simp [octL_len]; omega
    go_wp2_with fail
    refine (number_any _ _ _ _ _ _ (m.Funcs.length : Nat) 1 (by omega) _ HR.out (by omega)).mono ?_
    rintro e w6 ⟨rfl, hr⟩
    have HR := Lib.hid hr
    have k6 : Keeps w2 w6 := hr.below
    have j1 := k6.cell i1
    clear hr k5
    obtain ⟨L6, hL6⟩ : ∃ L, L = L4 ++ octL m.Text ++ bigB (m.Funcs.length : Nat) 1 := ⟨_, rfl⟩
    have hlen6 : L6.length ≤ 8007 := by rw [hL6]; simp [bigB_len, octL_len]; omega
    rw [← hL6] at HR
    have HL6 := Lib.hid hL6
    clear hL6 hlen5
    go_wp2_with fail
    go_loopw [48] (fun s48 wr => ∃ k : Nat, k ≤ m.Funcs.length ∧ s48 = .int .i64 k ∧ WrAt w2.heap.size w2 (w2.heap.size + 1) (fun _ => False) (fun _ => True) (L6 ++ (m.Funcs.take k).flatMap funB) wr) (fun s48 _ => m.Funcs.length - (intOf s48).toNat)
    case atStart => exact ⟨0, Nat.zero_le _, rfl, by simpa using HR.out⟩
    case round =>
      obtain ⟨k, hk, rfl, hr⟩ := hrel
      have HR := Lib.hid hr
      have kr : Keeps w2 wr := hr.below
      have hsr := kr.size
      clear hr
      by_cases hlt : k < m.Funcs.length
      · obtain ⟨b, off, rfl, hc⟩ := t13 (by omega)
        have c0 : wr.cell? ⟨b, off + k * 3, none⟩ = some (.string (nth m.Funcs k).Name) := (hkw.trans kr).cell (by simpa [Fu.c] using hc k 0 hlt (by omega))
        have c1 : wr.cell? ⟨b, off + k * 3 + 1, none⟩ = some (.int .i64 (nth m.Funcs k).Start) := (hkw.trans kr).cell (by simpa [Fu.c] using hc k 1 hlt (by omega))
        have c2 : wr.cell? ⟨b, off + k * 3 + 2, none⟩ = some (.int .i64 (nth m.Funcs k).Size) := (hkw.trans kr).cell (by simpa [Fu.c] using hc k 2 hlt (by omega))
        have hnm : (nth m.Funcs k).Name.data.toList.length ≤ 16 ∧ (nth m.Funcs k).Name.size = (nth m.Funcs k).Name.data.toList.length := by
          have := nameOk_size (HG.out.func k hlt).1
          exact ⟨by rw [Array.length_toList]; exact this, by rw [Array.length_toList]; rfl⟩
        obtain ⟨hn1, hn2⟩ := hnm
        have HN2 := Lib.hid hn2
        clear hn2
        have HS := Lib.hid (flatMap_take_succ funB m.Funcs k hlt)
        have HFB := Lib.hid (show funB (nth m.Funcs k) = bigB ((nth m.Funcs k).Name.data.toList.length : Nat) 1 ++ octL (nth m.Funcs k).Name.data.toList ++ bigB (nth m.Funcs k).Size 2 from rfl)
        have hLk : (L6 ++ (m.Funcs.take k).flatMap funB).length ≤ 8807 := by
          have : ∀ l : List Fu, l.length ≤ 40 → (∀ f, f ∈ l → f.Name.data.toList.length ≤ 16) → (l.flatMap funB).length ≤ l.length * 20 := fun l _ h => flatMap_bound funB 20 l fun f hf => by have := h f hf; simp only [funB, List.length_append, bigB_len, octL_len]; omega
          have h1 := this (m.Funcs.take k) (by simp; omega) fun f hf => by
            obtain ⟨i, hi, he⟩ := List.getElem_of_mem hf
            simp at hi he
            have := nameOk_size (HG.out.func i (by omega)).1
            rw [← he, ← nth_eq m.Funcs i (by omega), Array.length_toList]
            exact this
          have h2 : (m.Funcs.take k).length ≤ 40 := by simp; omega
          rw [List.length_append]
          omega
        obtain ⟨LK, hLK⟩ : ∃ L, L = L6 ++ (m.Funcs.take k).flatMap funB := ⟨_, rfl⟩
        rw [← hLK] at HR hLk
        have HLK := Lib.hid hLK
        generalize nth m.Funcs k = fk at *
        obtain ⟨Nm, St, Sz⟩ := fk
        simp only [] at c0 c1 c2 hn1 HN2 HFB
        have hbx := HR.out.box (.cells #[.string Nm, .int .i64 St, .int .i64 Sz] 55)
        obtain ⟨wb, hwb⟩ : ∃ wb : World, wb = wr.alloc (.cells #[.string Nm, .int .i64 St, .int .i64 Sz] 55) := ⟨_, rfl⟩
        rw [← hwb] at hbx
        have HWB := Lib.hid hwb
        have HBX := Lib.hid hbx
        have b0 := hbx.here.2.cell (j := 0) rfl
        have kb : Keeps w2 wb := hbx.below
        clear hc t13 hLK hwb hbx
        go_upto_region 11 with fail
        rw [← HWB.out]
        clear c0 c1 c2 HWB
        go_wp2_with fail
        rw [HN2.out]
        refine (number_any _ _ _ _ _ _ (Nm.data.toList.length : Nat) 1 (by omega) _ HBX.out (by omega)).mono ?_
        rintro e wd ⟨rfl, hr⟩
        have kd : Keeps w2 wd := hr.below
        have hsd := kd.size
        have hHere := hr.here.2
        have b0 := hHere.cell (j := 0) rfl
        have hbl := hHere.lt
        obtain ⟨xd, hb⟩ := hr
        obtain ⟨axd, cxd, exd⟩ := own_form' hb.own
        subst exd
        have g0 := hb.blk.cell (j := 0) rfl
        have f0 := hb.blk.thawed 0
        have hgl := hb.blk.lt
        obtain ⟨LD, hLD⟩ : ∃ L, L = LK ++ bigB (Nm.data.toList.length : Nat) 1 := ⟨_, rfl⟩
        have hLDl : LD.length ≤ 8808 := by rw [hLD]; simp [bigB_len]; omega
        rw [← hLD] at hb g0
        have HB := Lib.hid hb
        have HLD := Lib.hid hLD
        clear hb hLD HBX hHere
        go_upto_region 12 with fail
        go_cut [] (fun wx => WrAt w2.heap.size w2 (w2.heap.size + 1) (fun b => False ∨ b = wr.heap.size) (fun w' => True ∧ Blk w' wr.heap.size (.cells #[.string Nm, .int .i64 St, .int .i64 Sz] 55)) (LD ++ octL Nm.data.toList) wx)
        case first =>
          go_region_law ((refine step_onto (by rfl) (.tmp 61) (.tmp 63) 22 9 (by rfl) Try.underlying22 info_u8 (by rfl) (base := w2.heap.size) (f := cu) (l := LD) (by rfl) (by exact HB.out.own.keep (by repeat (with_reducible (first | assumption | exact Keeps.refl _ | refine Keeps.alloc ?_ _ | refine Keeps.drew ?_ | refine Keeps.drewN ?_ _ | refine Keeps.trans' ?_ (by assumption) (by assumption))))) (ys := octL Nm.data.toList) (by rfl) (by exact src_name Try.underlying9 Nm) (by rw [octL_len]; omega) (by rw [octL_len]; unfold maxLen; omega) (by first | omega | (simp only [sz_alloc]; omega) | (simp only [sz_drew]; omega) | (simp only [sz_alloc, sz_drew]; omega) | (simp only [sz_alloc, sz_drewN]; omega)) ?_; intro v7 w7 hown7 hbel7 hgr7 hfr7; obtain ⟨a7, c7, rfl⟩ := own_form' hown7; have hB7 := Blk.grown (Blk.keep HB.out.blk (by repeat (with_reducible (first | assumption | exact Keeps.refl _ | refine Keeps.alloc ?_ _ | refine Keeps.drew ?_ | refine Keeps.drewN ?_ _ | refine Keeps.trans' ?_ (by assumption) (by assumption))))) hgr7 (fun e => HB.out.vg e.symm); have hc7 := hB7.cell (j := 0) rfl; have hf7 := hB7.thawed 0; have hl7 := hB7.lt; have HB7 := Lib.hid hB7; have HO7 := Lib.hid hown7; have HG7 := Lib.hid hgr7; have HF7 := Lib.hid hfr7; clear hB7 hown7 hbel7 hgr7 hfr7))
          all_goals
            go_wp2_with fail
            go_meet
            case rel =>
              have hp := Bld.push HB.out (by repeat (with_reducible (first | assumption | exact Keeps.refl _ | refine Keeps.alloc ?_ _ | refine Keeps.drew ?_ | refine Keeps.drewN ?_ _))) HO7.out HG7.out HF7.out 0
              rw [List.length_append] at hp
              exact ⟨_, hp⟩
        case rest =>
          have HR2 := Lib.hid hcut
          have b2 := hcut.here.2.cell (j := 2) rfl
          clear hcut HB g0 f0 hgl b0
          have hl9 : (LD ++ octL Nm.data.toList).length ≤ 9000 := by rw [List.length_append, octL_len]; omega
          go_wp2_with fail
          refine (number_any _ _ _ _ _ _ Sz 2 (by omega) _ HR2.out (by omega)).mono ?_
          rintro e we ⟨rfl, hr⟩
          have HR3 := Lib.hid hr.forget
          clear hr hl9
          go_wp2_with fail
          go_roundw
          case rel =>
            refine ⟨k + 1, by omega, by go_num, ?_⟩
            have h := HR3.out
            rw [HLD.out, HLK.out] at h
            rw [HS.out, HFB.out]
            simpa [List.append_assoc] using h
          case measure => simp [intOf]; omega
      · obtain rfl : k = m.Funcs.length := by omega
        rw [List.take_length] at HR
        have hb1 : ((m.Funcs.flatMap funB)).length ≤ 800 := by
          have h1 := flatMap_bound funB 20 m.Funcs fun f hf => by
            obtain ⟨i, hi, he⟩ := List.getElem_of_mem hf
            have := nameOk_size (HG.out.func i (by omega)).1
            rw [show fname m i = f.Name by unfold fname; rw [nth_eq _ _ hi, he]] at this
            have e : f.Name.data.toList.length = f.Name.size := by rw [Array.length_toList]; rfl
            simp only [funB, List.length_append, bigB_len, octL_len]
            omega
          omega
        have j5 := kr.cell i5
        obtain ⟨L7, hL7⟩ : ∃ L, L = L6 ++ m.Funcs.flatMap funB := ⟨_, rfl⟩
        have hlen7 : L7.length ≤ 8807 := by rw [hL7, List.length_append]; omega
        rw [← hL7] at HR
        have HL7 := Lib.hid hL7
        clear hL7 hb1
        go_wp2_with fail
        refine (number_any _ _ _ _ _ _ m.Entry 1 (by omega) _ HR.out (by omega)).mono ?_
        rintro e w8 ⟨rfl, hr⟩
        have HR := Lib.hid hr
        have k8 : Keeps w2 w8 := hr.below
        have j2 := k8.cell i2
        clear hr j5 kr
        have hl8 : (L7 ++ bigB m.Entry 1).length ≤ 8808 := by rw [List.length_append, bigB_len]; omega
        go_wp2_with fail
        refine (number_any _ _ _ _ _ _ (m.Tables.length : Nat) 1 (by omega) _ HR.out (by omega)).mono ?_
        rintro e w9 ⟨rfl, hr⟩
        have HR := Lib.hid hr
        have k9 : Keeps w2 w9 := hr.below
        have j2 := k9.cell i2
        clear hr k8
        obtain ⟨L9, hL9⟩ : ∃ L, L = L7 ++ bigB m.Entry 1 ++ bigB (m.Tables.length : Nat) 1 := ⟨_, rfl⟩
        have hlen9 : L9.length ≤ 8809 := by rw [hL9, List.length_append, bigB_len]; omega
        rw [← hL9] at HR
        have HL9 := Lib.hid hL9
        clear hL9 hl8
        go_wp2_with fail
        go_loopw [84] (fun s84 wr => ∃ k : Nat, k ≤ m.Tables.length ∧ s84 = .int .i64 k ∧ WrAt w2.heap.size w2 (w2.heap.size + 1) (fun _ => False) (fun _ => True) (L9 ++ (m.Tables.take k).flatMap tabB) wr) (fun s84 _ => m.Tables.length - (intOf s84).toNat)
        case atStart => exact ⟨0, Nat.zero_le _, rfl, by simpa using HR.out⟩
        case round =>
          obtain ⟨k, hk, rfl, hr⟩ := hrel
          have HR := Lib.hid hr
          have kr : Keeps w2 wr := hr.below
          clear hr
          by_cases hlt : k < m.Tables.length
          · obtain ⟨b, off, rfl, hc⟩ := t23 (by omega)
            have c0 : wr.cell? ⟨b, off + k, none⟩ = some (tv k) := (hkw.trans kr).cell (by simpa using hc k 0 hlt (by omega))
            have hT := rv k hlt
            obtain ⟨eo, ecap, he⟩ := Arr.form hT
            rw [he] at c0 hT
            obtain ⟨eo', ecap', hv', q1, q2, -, q3⟩ := id hT
            injection hv' with e1' e2' e3'
            subst e1'
            subst e3'
            clear e2'
            unfold maxLen at q2
            obtain ⟨ht1, ht2⟩ := HG.out.tab k hlt
            have HS := Lib.hid (flatMap_take_succ tabB m.Tables k hlt)
            have HTB := Lib.hid (show tabB (nth m.Tables k) = bigB ((nth m.Tables k).length : Nat) 1 ++ (nth m.Tables k).flatMap (fun n => bigB n 2) from rfl)
            have hLk : (L9 ++ (m.Tables.take k).flatMap tabB).length ≤ 10000 := by
              have h1 := flatMap_bound tabB 41 (m.Tables.take k) fun t ht => by
                obtain ⟨i, hi, he⟩ := List.getElem_of_mem ht
                simp at hi he
                have h2 := (HG.out.tab i (by omega)).1
                rw [nth_eq _ _ (show i < m.Tables.length by omega), he] at h2
                have h3 := flatMap_bound (fun n => bigB n 2) 2 t fun _ _ => by rw [bigB_len]; omega
                simp only [tabB, List.length_append, bigB_len]
                omega
              have h2 : (m.Tables.take k).length ≤ 20 := by simp; omega
              rw [List.length_append]
              omega
            obtain ⟨LK, hLK⟩ : ∃ L, L = L9 ++ (m.Tables.take k).flatMap tabB := ⟨_, rfl⟩
            rw [← hLK] at HR hLk
            have HLK := Lib.hid hLK
            have HT := Lib.hid hT
            generalize nth m.Tables k = tk at *
            clear hc t23 rv he hLK hT
            go_wp2_with fail
            refine (number_any _ _ _ _ _ _ (tk.length : Nat) 1 (by omega) _ HR.out (by omega)).mono ?_
            rintro e wd ⟨rfl, hr⟩
            have HR := Lib.hid hr
            have kd : Keeps w2 wd := hr.below
            clear hr c0
            obtain ⟨LD, hLD⟩ : ∃ L, L = LK ++ bigB (tk.length : Nat) 1 := ⟨_, rfl⟩
            have hLDl : LD.length ≤ 10001 := by rw [hLD, List.length_append, bigB_len]; omega
            rw [← hLD] at HR
            have HLD := Lib.hid hLD
            clear hLD
            go_wp2_with fail
            obtain ⟨wo, hwo⟩ : ∃ wo : World, wo = wr := ⟨_, rfl⟩
            go_loopw [94] (fun s94 wi => ∃ j : Nat, j ≤ tk.length ∧ s94 = .int .i64 j ∧ WrAt w2.heap.size w2 (w2.heap.size + 1) (fun _ => False) (fun _ => True) (LD ++ (tk.take j).flatMap (fun n => bigB n 2)) wi) (fun s94 _ => tk.length - (intOf s94).toNat)
            case atStart => exact ⟨0, Nat.zero_le _, rfl, by simpa using HR.out⟩
            case round =>
              obtain ⟨j, hj, rfl, hr⟩ := hrel
              have HR := Lib.hid hr
              have ki : Keeps w2 wr := hr.below
              clear hr
              by_cases hlj : j < tk.length
              · obtain ⟨b2, off2, rfl, hc2⟩ := q3 (by omega)
                have c1 : wr.cell? ⟨b2, off2 + j, none⟩ = some (.int .i64 (nth tk j)) := (hkw.trans ki).cell (by simpa using hc2 j 0 hlj (by omega))
                have HSJ := Lib.hid (flatMap_take_succ (fun n => bigB n 2) tk j hlj)
                have hLj : (LD ++ (tk.take j).flatMap (fun n => bigB n 2)).length ≤ 10041 := by
                  have h3 := flatMap_bound (fun n => bigB n 2) 2 (tk.take j) fun _ _ => by rw [bigB_len]; omega
                  have h4 : (tk.take j).length ≤ 20 := by simp; omega
                  rw [List.length_append]
                  omega
                generalize nth tk j = x at *
                clear hc2 q3
                go_wp2_with fail
                refine (number_any _ _ _ _ _ _ x 2 (by omega) _ HR.out (by omega)).mono ?_
                rintro e we ⟨rfl, hr⟩
                have HR3 := Lib.hid hr
                clear hr
                go_wp2_with fail
                go_roundw
                case rel =>
                  refine ⟨j + 1, by omega, by go_num, ?_⟩
                  rw [HSJ.out, ← List.append_assoc]
                  exact HR3.out
                case measure => simp [intOf]; omega
              · obtain rfl : j = tk.length := by omega
                rw [List.take_length] at HR
                go_wp2_with fail
                go_roundw
                case rel =>
                  refine ⟨k + 1, by omega, by go_num, ?_⟩
                  have h := HR.out
                  rw [HLD.out, HLK.out] at h
                  rw [HS.out, HTB.out]
                  simpa [List.append_assoc] using h
                case measure => simp [intOf]; omega
          · obtain rfl : k = m.Tables.length := by omega
            rw [List.take_length] at HR
            have hb2 : (m.Tables.flatMap tabB).length ≤ 820 := by
              have h1 := flatMap_bound tabB 41 m.Tables fun t ht => by
                obtain ⟨i, hi, he⟩ := List.getElem_of_mem ht
                have h2 := (HG.out.tab i hi).1
                rw [nth_eq _ _ hi, he] at h2
                have h3 := flatMap_bound (fun n => bigB n 2) 2 t fun _ _ => by rw [bigB_len]; omega
                simp only [tabB, List.length_append, bigB_len]
                omega
              omega
            have j3 := kr.cell i3
            obtain ⟨L10, hL10⟩ : ∃ L, L = L9 ++ m.Tables.flatMap tabB := ⟨_, rfl⟩
            have hlen10 : L10.length ≤ 9629 := by rw [hL10, List.length_append]; omega
            rw [← hL10] at HR
            have HL10 := Lib.hid hL10
            clear hL10 hb2
            go_wp2_with fail
            refine (number_any _ _ _ _ _ _ (m.Data.length : Nat) 1 (by omega) _ HR.out (by omega)).mono ?_
            rintro e w11 ⟨rfl, hr⟩
            have HR := Lib.hid hr
            have k11 : Keeps w2 w11 := hr.below
            have j3 := k11.cell i3
            clear hr
            obtain ⟨L11, hL11⟩ : ∃ L, L = L10 ++ bigB (m.Data.length : Nat) 1 := ⟨_, rfl⟩
            have hlen11 : L11.length ≤ 9630 := by rw [hL11, List.length_append, bigB_len]; omega
            rw [← hL11] at HR
            have HL11 := Lib.hid hL11
            clear hL11
            go_wp2_with fail
            go_loopw [111] (fun s wr => ∃ k : Nat, k ≤ m.Data.length ∧ s = .int .i64 k ∧ WrAt w2.heap.size w2 (w2.heap.size + 1) (fun _ => False) (fun _ => True) (L11 ++ (m.Data.take k).flatMap (fun n => bigB n 8)) wr) (fun s _ => m.Data.length - (intOf s).toNat)
            case atStart => exact ⟨0, Nat.zero_le _, rfl, by simpa using HR.out⟩
            case round =>
              obtain ⟨k, hk, rfl, hr⟩ := hrel
              have HR := Lib.hid hr
              have kr : Keeps w2 wr := hr.below
              clear hr
              by_cases hlt : k < m.Data.length
              · obtain ⟨b, off, rfl, hc⟩ := t33 (by omega)
                have c0 : wr.cell? ⟨b, off + k, none⟩ = some (.int .i64 (nth m.Data k)) := (hkw.trans kr).cell (by simpa using hc k 0 hlt (by omega))
                have HSJ := Lib.hid (flatMap_take_succ (fun n => bigB n 8) m.Data k hlt)
                have hLj : (L11 ++ (m.Data.take k).flatMap (fun n => bigB n 8)).length ≤ 10142 := by
                  have h3 := flatMap_bound (fun n => bigB n 8) 8 (m.Data.take k) fun _ _ => by rw [bigB_len]; omega
                  have h4 : (m.Data.take k).length ≤ 64 := by simp; omega
                  rw [List.length_append]
                  omega
                generalize nth m.Data k = x at *
                clear hc t33
                go_wp2_with fail
                refine (number_any _ _ _ _ _ _ x 8 (by omega) _ HR.out (by omega)).mono ?_
                rintro e we ⟨rfl, hr⟩
                have HR3 := Lib.hid hr
                clear hr
                go_wp2_with fail
                go_roundw
                case rel =>
                  refine ⟨k + 1, by omega, by go_num, ?_⟩
                  rw [HSJ.out, ← List.append_assoc]
                  exact HR3.out
                case measure => simp [intOf]; omega
              · obtain rfl : k = m.Data.length := by omega
                rw [List.take_length] at HR
                have hb3 : (m.Data.flatMap fun n => bigB n 8).length ≤ 512 := by
                  have h3 := flatMap_bound (fun n => bigB n 8) 8 m.Data fun _ _ => by rw [bigB_len]; omega
                  omega
                have j4 := kr.cell i4
                obtain ⟨L12, hL12⟩ : ∃ L, L = L11 ++ m.Data.flatMap (fun n => bigB n 8) := ⟨_, rfl⟩
                have hlen12 : L12.length ≤ 10142 := by rw [hL12, List.length_append]; omega
                rw [← hL12] at HR
                have HL12 := Lib.hid hL12
                clear hL12 hb3
                go_wp2_with fail
                refine (number_any _ _ _ _ _ _ (m.Lines.length : Nat) 2 (by omega) _ HR.out (by omega)).mono ?_
                rintro e w13 ⟨rfl, hr⟩
                have HR := Lib.hid hr
                have k13 : Keeps w2 w13 := hr.below
                have j4 := k13.cell i4
                clear hr
                obtain ⟨L13, hL13⟩ : ∃ L, L = L12 ++ bigB (m.Lines.length : Nat) 2 := ⟨_, rfl⟩
                have hlen13 : L13.length ≤ 10144 := by rw [hL13, List.length_append, bigB_len]; omega
                rw [← hL13] at HR
                have HL13 := Lib.hid hL13
                clear hL13
                go_wp2_with fail
                go_loopw [127] (fun s wr => ∃ k : Nat, k ≤ m.Lines.length ∧ s = .int .i64 k ∧ WrAt w2.heap.size w2 (w2.heap.size + 1) (fun _ => False) (fun _ => True) (L13 ++ (m.Lines.take k).flatMap lineB) wr) (fun s _ => m.Lines.length - (intOf s).toNat)
                case atStart => exact ⟨0, Nat.zero_le _, rfl, by simpa using HR.out⟩
                case round =>
                  obtain ⟨k, hk, rfl, hr⟩ := hrel
                  have HR := Lib.hid hr
                  have kr : Keeps w2 wr := hr.below
                  clear hr
                  by_cases hlt : k < m.Lines.length
                  · obtain ⟨b, off, rfl, hc⟩ := t43 (by omega)
                    have c0 : wr.cell? ⟨b, off + k * 2, none⟩ = some (.int .i64 (nth m.Lines k).At) := (hkw.trans kr).cell (by simpa [Ln.c] using hc k 0 hlt (by omega))
                    have c1 : wr.cell? ⟨b, off + k * 2 + 1, none⟩ = some (.int .i64 (nth m.Lines k).N) := (hkw.trans kr).cell (by simpa [Ln.c] using hc k 1 hlt (by omega))
                    have HS := Lib.hid (flatMap_take_succ lineB m.Lines k hlt)
                    have HLB := Lib.hid (show lineB (nth m.Lines k) = bigB (nth m.Lines k).At 2 ++ bigB (nth m.Lines k).N 2 from rfl)
                    have hLk : (L13 ++ (m.Lines.take k).flatMap lineB).length ≤ 26144 := by
                      have h3 := flatMap_bound lineB 4 (m.Lines.take k) fun _ _ => by simp only [lineB, List.length_append, bigB_len]; omega
                      have h4 : (m.Lines.take k).length ≤ 4000 := by simp; omega
                      rw [List.length_append]
                      omega
                    obtain ⟨LK, hLK⟩ : ∃ L, L = L13 ++ (m.Lines.take k).flatMap lineB := ⟨_, rfl⟩
                    rw [← hLK] at HR hLk
                    have HLK := Lib.hid hLK
                    generalize nth m.Lines k = lk at *
                    obtain ⟨lA, lN⟩ := lk
                    simp only [] at c0 c1 HLB
                    have hbx := HR.out.box (.cells #[.int .i64 lA, .int .i64 lN] 57)
                    obtain ⟨wb, hwb⟩ : ∃ wb : World, wb = wr.alloc (.cells #[.int .i64 lA, .int .i64 lN] 57) := ⟨_, rfl⟩
                    rw [← hwb] at hbx
                    have HWB := Lib.hid hwb
                    have HBX := Lib.hid hbx
                    have b0 := hbx.here.2.cell (j := 0) rfl
                    clear hc t43 hLK hwb hbx
                    go_upto_region 37 with fail
                    rw [← HWB.out]
                    clear c0 c1 HWB
                    go_wp2_with fail
                    refine (number_any _ _ _ _ _ _ lA 2 (by omega) _ HBX.out (by omega)).mono ?_
                    rintro e wd ⟨rfl, hr⟩
                    have b1 := hr.here.2.cell (j := 1) rfl
                    have HD := Lib.hid hr
                    clear hr b0 HBX
                    have hl9 : (LK ++ bigB lA 2).length ≤ 26146 := by rw [List.length_append, bigB_len]; omega
                    go_wp2_with fail
                    refine (number_any _ _ _ _ _ _ lN 2 (by omega) _ HD.out (by omega)).mono ?_
                    rintro e we ⟨rfl, hr⟩
                    have HR3 := Lib.hid hr.forget
                    clear hr hl9 b1
                    go_wp2_with fail
                    go_roundw
                    case rel =>
                      refine ⟨k + 1, by omega, by go_num, ?_⟩
                      have h := HR3.out
                      rw [HLK.out] at h
                      rw [HS.out, HLB.out]
                      simpa [List.append_assoc] using h
                    case measure => simp [intOf]; omega
                  · obtain rfl : k = m.Lines.length := by omega
                    rw [List.take_length] at HR
                    have hfin : WrAt w2.heap.size w2 (w2.heap.size + 1) (fun _ => False) (fun _ => True) (imgB m) wr := by
                      have h := HR.out
                      rw [HL13.out, HL12.out, HL11.out, HL10.out, HL9.out, HL7.out, HL6.out, HL4.out] at h
                      rw [HI.out]
                      simpa [List.append_assoc] using h
                    obtain ⟨x, hb⟩ := hfin
                    obtain ⟨ax7, cx7, ex⟩ := own_form' hb.own
                    subst ex
                    have g0 := hb.blk.cell (j := 0) rfl
                    have HB := Lib.hid hb
                    clear hb
                    go_wp2_with fail
                    go_ret2
                    exact ⟨_, rfl, own_octs HB.out.own, hkw.trans kr⟩
        
end Go.Proofs.Ytpgifkhgefbnfaa
