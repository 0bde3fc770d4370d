/-
  The document's ImageBytes: the bytes of an image.
-/
import Derived.Test.YtpgifkhgefbnfaaBig
import Derived.Test.YtpgifkhgefbnfaaEncode
import Derived.Test.YtpgifkhgefbnfaaImgFault
namespace Go.Proofs.Ytpgifkhgefbnfaa
open Go.RowKit BH
set_option maxHeartbeats 4000000
set_option maxRecDepth 100000

theorem imageBytes_bad (v : Value) (m : Img) (w : World) (hv : ImgAt w v m) (hF : imgFault m ≠ 0) :
    Calls Try.prog 9 #[v] w (GivesN (fun v' w' => Octs w' v' []) (imgFault m) w) := by
  have hC := fun W (hk : Keeps w W) => imageFault_any v m W (hv.keep hk)
  have HC := Lib.hid hC
  obtain ⟨v0, v1, v2, v3, v4, rfl, -⟩ := hv
  generalize imgFault m = F at HC hF ⊢
  have q : (F != 0) = true := by simpa using hF
  clear hF hC
  go_enter Try.func9, Try.ntmps9
  go_wp2_with fail
  refine (HC.out _ ((Keeps.refl w).alloc _)).mono ?_
  rintro e w1 ⟨rfl, hk1⟩
  go_wp2_with fail
  go_ret2
  exact ⟨_, rfl, ⟨none, 0, rfl, Nat.le_refl _, by unfold maxLen; omega, fun _ => rfl, fun h => absurd h (Nat.lt_irrefl _)⟩, ((Keeps.refl _).alloc _).trans hk1⟩
theorem sumF_nonneg {m : Img} (hg : ImgGood m) : ∀ k, k ≤ m.Funcs.length → 0 ≤ sumF m k
  | 0, _ => by simp [sumF]
  | k + 1, hk => by
    have h1 := sumF_nonneg hg k (by omega)
    have h2 := (hg.func k (by omega)).2.2.2.1
    simp only [sumF]
    omega
theorem imageBytes_ok (v : Value) (m : Img) (w : World) (hv : ImgAt w v m) (hF : imgFault m = 0) :
    Calls Try.prog 9 #[v] w (GivesN (fun v' w' => Octs w' v' (imgB m)) 0 w) := by
  have hg := imgGood m hF
  have hC := fun W (hk : Keeps w W) => imageFault_any v m W (hv.keep hk)
  rw [hF] at hC
  have HC := Lib.hid hC
  have HG := Lib.hid hg
  have r0 := hg.text
  have r1 := hg.funcs
  have r2 := hg.tabs
  have r3 := hg.data
  have r4 := hg.lines
  obtain ⟨en1, en2⟩ := hg.entry
  have HI := Lib.hid (show imgB m = ([98, 104, 49, 10] ++ bigB (m.Text.length : Nat) 2 ++ octL m.Text ++ bigB (m.Funcs.length : Nat) 1 ++ m.Funcs.flatMap funB ++ bigB m.Entry 1 ++ bigB (m.Tables.length : Nat) 1 ++ m.Tables.flatMap tabB ++ bigB (m.Data.length : Nat) 1 ++ (m.Data.flatMap fun n => bigB n 8) ++ bigB (m.Lines.length : Nat) 2 ++ m.Lines.flatMap lineB) from rfl)
  obtain ⟨v0, v1, v2, v3, v4, rfl, a0, ⟨ao1, ca1, rfl, t11, t12, -, t13⟩, ⟨tv, ⟨ao2, ca2, rfl, t21, t22, -, t23⟩, rv⟩, ⟨ao3, ca3, rfl, t31, t32, -, t33⟩, ⟨ao4, ca4, rfl, t41, t42, -, t43⟩⟩ := hv
  unfold maxLen at t12 t22 t32 t42
  obtain ⟨ao0, ca0, e0⟩ := Arr.form a0
  subst e0
  have HA0 := Lib.hid a0
  clear a0 hg hF hC
  have kc := fun (w : World) (C : Array Value) (n c : Nat) => Lib.run_convert_bytes_const (P := Try.prog) w 22 5 C n c Try.underlying22 Try.underlying5
  go_enter Try.func9, Try.ntmps9
  go_wp2_with fail
  refine (HC.out _ ((Keeps.refl w).alloc _)).mono ?_
  rintro e w2 ⟨rfl, hk2⟩
  have hB2 := blk_after hk2
  have hkw : Keeps w w2 := ((Keeps.refl _).alloc _).trans hk2
  have i0 := hB2.cell (j := 0) rfl
  have i1 := hB2.cell (j := 1) rfl
  have i2 := hB2.cell (j := 2) rfl
  have i3 := hB2.cell (j := 3) rfl
  have i4 := hB2.cell (j := 4) rfl
  have i5 := hB2.cell (j := 5) rfl
  have hbx := hB2.lt
  clear hB2 hk2 HC
  go_wp2_with fail
  refine (big_2 (m.Text.length : Nat) (by omega) (by omega) _).mono ?_
  rintro e wA ⟨vb, rfl, hvb, hkA⟩
  obtain ⟨ab, cb', eb⟩ := own_form' hvb
  rw [bigB_len] at eb
  subst eb
  have HV := Lib.hid (src_arr (P := Try.prog) (tx := 22) (e := 5) (by decide) cu_len cu_one Try.underlying22 (hvb.arr cu_len))
  have hkB : Keeps w2 wA := ((Keeps.refl _).alloc _).trans hkA
  have hsB := hkB.size
  have HSG := Lib.hid (sign_cells (blk_after hkA))
  have j0 := hkB.cell i0
  clear hvb hkA kc
  have HB1 := Lib.hid (show [(m.Funcs.length : Int)] = bigB ((m.Funcs.length : Int)) 1 by simp [bigB]; omega)
  go_wp2_with (first
    | (at_builtin; refine wpList_over (by rfl) (.tmp 18) (.tmp 22) 22 22 (by rfl) Try.underlying22 info_u8 (by rfl) (base := w2.heap.size) (f := cu) (l := [98, 104, 49, 10]) (g := w2.heap.size) (by rfl) cu_len (by exact HSG.out) (ys := bigB (m.Text.length : Nat) 2) (by rfl) (by exact HV.out) (by simp [bigB_len]) (by simp) (by simp [bigB_len]) (by simp [bigB_len, maxLen]) (by first | omega | (simp only [sz_alloc]; omega)) ?_; intro v7 w7 hown7 hk7' hfr7; have hk7 : Keeps w2 w7 := hkB.trans hk7'; (try clear j0); have j0 := hk7.cell i0; obtain ⟨L1, hL1⟩ : ∃ L, L = [98, 104, 49, 10] ++ bigB (m.Text.length : Nat) 2 := ⟨_, rfl⟩; rw [← hL1] at hown7; have hlL1 : L1.length ≤ 6 := (by rw [hL1]; simp [bigB_len]); obtain ⟨a7, c7, e7⟩ := own_form' hown7; subst e7; have HL1 := Lib.hid hL1; have HO := Lib.hid hown7; have hs7 := hk7.size; clear hown7 hk7' hfr7 hL1 HV HSG hkB hsB)
    | (at_builtin; refine wpList_onto (by rfl) (.tmp 24) (.tmp 26) 22 22 (by rfl) Try.underlying22 info_u8 (by rfl) (base := w2.heap.size) (f := cu) (l := L1) (by rfl) (by exact HO.out) (ys := octL m.Text) (by rfl) (by exact src_octs Try.underlying22 (Arr.keep HA0.out (hkw.trans hk7))) (by rw [octL_len]; omega) (by rw [octL_len]; unfold maxLen; omega) (by first | omega | (simp only [sz_alloc]; omega)) ?_; intro v7 w7 hown7 hbel7 hgr7 hfr7; have hk7 : Keeps w2 w7 := Below.trans (hk7) hbel7; (try clear j1); have j1 := hk7.cell i1; obtain ⟨L2, hL2⟩ : ∃ L, L = L1 ++ octL m.Text := ⟨_, rfl⟩; rw [← hL2] at hown7; have hlL2 : L2.length ≤ 8006 := (by rw [hL2]; simp only [List.length_append, octL_len]; omega); obtain ⟨a7, c7, e7⟩ := own_form' hown7; subst e7; have HL2 := Lib.hid hL2; have HO := Lib.hid hown7; clear hown7 hbel7 hgr7 hfr7 hL2; have hs7 := hk7.size)
    | (at_builtin; refine wpList_pushes (by rfl) (.tmp 28) (.tmp 33) 22 (by rfl) Try.underlying22 info_u8 (by rfl) (by decide) (base := w2.heap.size) (f := cu) (l := L2) (by rfl) (by exact HO.out.keep (by repeat (with_reducible (first | assumption | exact Keeps.refl _ | refine Keeps.alloc ?_ _ | refine Keeps.drew ?_ | refine Keeps.drewN ?_ _)))) [(m.Funcs.length : Int)] _ _ (by rfl) (by exact Blk.top' _ _ (by first | rfl | simp)) cu_len cu_one (by simp; omega) (by simp [maxLen]; omega) (by first | omega | (simp only [sz_alloc]; omega)) ?_; intro v7 w7 hown7 hbel7 hgr7 hfr7; have hk7 : Keeps w2 w7 := Below.trans (hk7.alloc _) hbel7; (try clear j1); have j1 := hk7.cell i1; obtain ⟨L3, hL3⟩ : ∃ L, L = L2 ++ [(m.Funcs.length : Int)] := ⟨_, rfl⟩; rw [← hL3] at hown7; have hlL3 : L3.length ≤ 8007 := (by rw [hL3]; simp only [List.length_append, List.length_cons, List.length_nil]; omega); obtain ⟨a7, c7, e7⟩ := own_form' hown7; subst e7; have HL3 := Lib.hid hL3; have HO := Lib.hid hown7; clear hown7 hbel7 hgr7 hfr7 hL3; have hs7 := hk7.size))
  rw [HB1.out] at HL3
  clear HB1
  go_wp2_with fail
  go_loopw [5, 6] (fun s5 s6 wr => ∃ k : Nat, k ≤ m.Funcs.length ∧ s6 = .int .i64 k ∧ Keeps w2 wr ∧ Own wr w2.heap.size 5 1 cu s5 (L3 ++ (m.Funcs.take k).flatMap funB)) (fun _ s6 _ => m.Funcs.length - (intOf s6).toNat)
  case atStart => exact ⟨0, Nat.zero_le _, rfl, hk7, by simpa using HO.out⟩
  case round =>
    obtain ⟨k, hk, rfl, kr, ho⟩ := hrel
    have j1 := kr.cell i1
    have hsr := kr.size
    by_cases hlt : k < m.Funcs.length
    · obtain ⟨b, off, rfl, hc⟩ := t13 (by omega)
      have hc0 : w2.cell? ⟨b, off + k * 3, none⟩ = some (.string (nth m.Funcs k).Name) := hkw.cell (by simpa [Fu.c] using hc k 0 hlt (by omega))
      have hc2 : w2.cell? ⟨b, off + k * 3 + 2, none⟩ = some (.int .i64 (nth m.Funcs k).Size) := hkw.cell (by simpa [Fu.c] using hc k 2 hlt (by omega))
      have c0 := kr.cell hc0
      have hnm : (nth m.Funcs k).Name.data.toList.length ≤ 16 ∧ (nth m.Funcs k).Name.size = (nth m.Funcs k).Name.data.toList.length := by
        have := nameOk_size (HG.out.func k hlt).1
        exact ⟨by rw [Array.length_toList]; exact this, by rw [Array.length_toList]; rfl⟩
      obtain ⟨hn1, hn2⟩ := hnm
      have hsz : (nth m.Funcs k).Size ≤ 8000 ∧ 1 ≤ (nth m.Funcs k).Size := by
        have h1 := (HG.out.func k hlt).2.2
        have h2 := sumF_nonneg HG.out k (by omega)
        omega
      obtain ⟨hz1, hz2⟩ := hsz
      have hn3 : (nth m.Funcs k).Name.size ≤ 16 := by omega
      have HN2 := Lib.hid hn2
      clear hn2
      have HS := Lib.hid (flatMap_take_succ funB m.Funcs k hlt)
      have HFB := Lib.hid (show funB (nth m.Funcs k) = bigB ((nth m.Funcs k).Name.data.toList.length : Nat) 1 ++ octL (nth m.Funcs k).Name.data.toList ++ bigB (nth m.Funcs k).Size 2 from rfl)
      have hLk : (L3 ++ (m.Funcs.take k).flatMap funB).length ≤ 8807 := by
        have h1 := flatMap_bound funB 20 (m.Funcs.take k) fun f hf => by
          obtain ⟨i, hi, he⟩ := List.getElem_of_mem hf
          simp at hi he
          have := nameOk_size (HG.out.func i (by omega)).1
          rw [show fname m i = f.Name by unfold fname; rw [nth_eq _ _ (by omega), he]] at this
          have e : f.Name.data.toList.length = f.Name.size := by rw [Array.length_toList]; rfl
          simp only [funB, List.length_append, bigB_len, octL_len]
          omega
        have h2 : (m.Funcs.take k).length ≤ 40 := by simp; omega
        rw [List.length_append]
        omega
      obtain ⟨LK, hLK⟩ : ∃ L, L = L3 ++ (m.Funcs.take k).flatMap funB := ⟨_, rfl⟩
      rw [← hLK] at ho hLk
      obtain ⟨a5, c5, e5⟩ := own_form' ho
      subst e5
      have HO := Lib.hid ho
      have HLK := Lib.hid hLK
      generalize nth m.Funcs k = fk at *
      obtain ⟨Nm, St, Sz⟩ := fk
      simp only [] at hc0 hc2 c0 hn1 hn3 HN2 HFB hz1 hz2
      clear ho hLK hc t13
      have HB1 := Lib.hid (show [(Nm.size : Int)] = bigB (Nm.data.toList.length : Nat) 1 by rw [← HN2.out]; simp [bigB]; omega)
      go_wp2_with (first
        | (at_builtin; refine wpList_pushes (by rfl) (.tmp 42) (.tmp 51) 22 (by rfl) Try.underlying22 info_u8 (by rfl) (by decide) (base := w2.heap.size) (f := cu) (l := LK) (by rfl) (by exact HO.out.keep (by repeat (with_reducible (first | assumption | exact Keeps.refl _ | refine Keeps.alloc ?_ _ | refine Keeps.drew ?_ | refine Keeps.drewN ?_ _)))) [(Nm.size : Int)] _ _ (by rfl) (by exact Blk.top' _ _ (by first | rfl | simp)) cu_len cu_one (by simp; omega) (by simp [maxLen]; omega) (by first | omega | (simp only [sz_alloc]; omega)) ?_; intro v7 w7 hown7 hbel7 hgr7 hfr7; have hk7 : Keeps w2 w7 := Below.trans (kr.alloc _) hbel7; (try clear j1); have j1 := hk7.cell i1; (try clear c0); have c0 := hk7.cell hc0; obtain ⟨M1, hM1⟩ : ∃ L, L = LK ++ [(Nm.size : Int)] := ⟨_, rfl⟩; rw [← hM1] at hown7; have hlM1 : M1.length ≤ 8808 := (by rw [hM1]; simp only [List.length_append, List.length_cons, List.length_nil]; omega); obtain ⟨a7, c7, e7⟩ := own_form' hown7; subst e7; have HM1 := Lib.hid hM1; have HO := Lib.hid hown7; clear hown7 hbel7 hgr7 hfr7 hM1; have hs7 := hk7.size)
        | (at_builtin; refine wpList_onto (by rfl) (.tmp 53) (.tmp 59) 22 9 (by rfl) Try.underlying22 info_u8 (by rfl) (base := w2.heap.size) (f := cu) (l := M1) (by rfl) (by exact HO.out) (ys := octL Nm.data.toList) (by rfl) (by exact src_name Try.underlying9 Nm) (by rw [octL_len]; omega) (by rw [octL_len]; unfold maxLen; omega) (by first | omega | (simp only [sz_alloc]; omega)) ?_; intro v7 w7 hown7 hbel7 hgr7 hfr7; have hk7 : Keeps w2 w7 := Below.trans (hk7) hbel7; (try clear j1); have j1 := hk7.cell i1; (try clear c2); have c2 := hk7.cell hc2; obtain ⟨M2, hM2⟩ : ∃ L, L = M1 ++ octL Nm.data.toList := ⟨_, rfl⟩; rw [← hM2] at hown7; have hlM2 : M2.length ≤ 8824 := (by rw [hM2]; simp only [List.length_append, octL_len]; omega); obtain ⟨a7, c7, e7⟩ := own_form' hown7; subst e7; have HM2 := Lib.hid hM2; have HO := Lib.hid hown7; clear hown7 hbel7 hgr7 hfr7 hM2; have hs7 := hk7.size))
      rw [HB1.out] at HM1
      clear HB1
      go_wp2_with fail
      refine (big_2 (Sz) (by omega) (by omega) _).mono ?_
      rintro e wA ⟨vb, rfl, hvb, hkA⟩
      obtain ⟨ab, cb', eb⟩ := own_form' hvb
      rw [bigB_len] at eb
      subst eb
      have HV := Lib.hid (src_arr (P := Try.prog) (tx := 22) (e := 5) (by decide) cu_len cu_one Try.underlying22 (hvb.arr cu_len))
      have HO2 := Lib.hid (HO.out.keep hkA)
      have hkB : Keeps w2 wA := hk7.trans hkA
      have hsB := hkB.size
      have j1 := hkB.cell i1
      clear hvb hkA HO
      go_wp2_with (at_builtin; refine wpList_onto (by rfl) (.tmp 61) (.tmp 68) 22 22 (by rfl) Try.underlying22 info_u8 (by rfl) (base := w2.heap.size) (f := cu) (l := M2) (by rfl) (by exact HO2.out) (ys := bigB (Sz) 2) (by rfl) (by exact HV.out) (by rw [bigB_len]; omega) (by rw [bigB_len]; unfold maxLen; omega) (by first | omega | (simp only [sz_alloc]; omega)) ?_; intro v7 w7 hown7 hbel7 hgr7 hfr7; have hk7 : Keeps w2 w7 := Below.trans (hkB) hbel7; obtain ⟨M3, hM3⟩ : ∃ L, L = M2 ++ bigB (Sz) 2 := ⟨_, rfl⟩; rw [← hM3] at hown7; have hlM3 : M3.length ≤ 8826 := (by rw [hM3]; simp only [List.length_append, bigB_len]; omega); obtain ⟨a7, c7, e7⟩ := own_form' hown7; subst e7; have HM3 := Lib.hid hM3; have HO := Lib.hid hown7; clear hown7 hbel7 hgr7 hfr7 hM3; have hs7 := hk7.size)
      go_wp2_with fail
      go_roundw
      case rel =>
        refine ⟨k + 1, by omega, by go_num, hk7, ?_⟩
        have h := HO.out
        rw [HM3.out, HM2.out, HM1.out, HLK.out] at h
        rw [HM3.out, HM2.out, HM1.out, HLK.out, HS.out, HFB.out]
        simpa [List.append_assoc] using h
      case measure => simp [intOf]; omega
    · obtain rfl : k = m.Funcs.length := by omega
      rw [List.take_length] at ho
      have hb1 : ((m.Funcs.flatMap funB)).length ≤ 800 := by
        have h1 := flatMap_bound funB 20 m.Funcs fun f hf => by
          obtain ⟨i, hi, he⟩ := List.getElem_of_mem hf
          have := nameOk_size (HG.out.func i (by omega)).1
          rw [show fname m i = f.Name by unfold fname; rw [nth_eq _ _ hi, he]] at this
          have e : f.Name.data.toList.length = f.Name.size := by rw [Array.length_toList]; rfl
          simp only [funB, List.length_append, bigB_len, octL_len]
          omega
        omega
      have j5 := kr.cell i5
      have j2 := kr.cell i2
      obtain ⟨L4, hL4⟩ : ∃ L, L = L3 ++ m.Funcs.flatMap funB := ⟨_, rfl⟩
      have hlL4 : L4.length ≤ 8807 := by rw [hL4, List.length_append]; omega
      rw [← hL4] at ho
      obtain ⟨a5, c5, e5⟩ := own_form' ho
      subst e5
      have HO := Lib.hid ho
      have HL4 := Lib.hid hL4
      clear hL4 hb1 ho
      have HB1 := Lib.hid (show [m.Entry, (m.Tables.length : Int)] = bigB m.Entry 1 ++ bigB (m.Tables.length : Nat) 1 by simp [bigB]; omega)
      go_wp2_with (first
        | (at_builtin; refine wpList_pushes (by rfl) (.tmp 70) (.tmp 78) 22 (by rfl) Try.underlying22 info_u8 (by rfl) (by decide) (base := w2.heap.size) (f := cu) (l := L4) (by rfl) (by exact HO.out.keep (by repeat (with_reducible (first | assumption | exact Keeps.refl _ | refine Keeps.alloc ?_ _ | refine Keeps.drew ?_ | refine Keeps.drewN ?_ _)))) [m.Entry, (m.Tables.length : Int)] _ _ (by rfl) (by exact Blk.top' _ _ (by first | rfl | simp)) cu_len cu_one (by simp; omega) (by simp [maxLen]; omega) (by first | omega | (simp only [sz_alloc]; omega)) ?_; intro v7 w7 hown7 hbel7 hgr7 hfr7; have hk7 : Keeps w2 w7 := Below.trans (kr.alloc _) hbel7; (try clear j2); have j2 := hk7.cell i2; obtain ⟨L5, hL5⟩ : ∃ L, L = L4 ++ [m.Entry, (m.Tables.length : Int)] := ⟨_, rfl⟩; rw [← hL5] at hown7; have hlL5 : L5.length ≤ 8809 := (by rw [hL5]; simp only [List.length_append, List.length_cons, List.length_nil]; omega); obtain ⟨a7, c7, e7⟩ := own_form' hown7; subst e7; have HL5 := Lib.hid hL5; have HO := Lib.hid hown7; clear hown7 hbel7 hgr7 hfr7 hL5; have hs7 := hk7.size))
      rw [HB1.out] at HL5
      clear HB1
      go_wp2_with fail
      go_loopw [5, 7] (fun s5 s7 wr => ∃ k : Nat, k ≤ m.Tables.length ∧ s7 = .int .i64 k ∧ Keeps w2 wr ∧ Own wr w2.heap.size 5 1 cu s5 (L5 ++ (m.Tables.take k).flatMap tabB)) (fun _ s7 _ => m.Tables.length - (intOf s7).toNat)
      case atStart => exact ⟨0, Nat.zero_le _, rfl, hk7, by simpa using HO.out⟩
      case round =>
        obtain ⟨k, hk, rfl, kr, ho⟩ := hrel
        have j2 := kr.cell i2
        have hsr := kr.size
        by_cases hlt : k < m.Tables.length
        · obtain ⟨b, off, rfl, hc⟩ := t23 (by omega)
          have hc0 : w2.cell? ⟨b, off + k, none⟩ = some (tv k) := hkw.cell (by simpa using hc k 0 hlt (by omega))
          have hT := rv k hlt
          obtain ⟨eo, ecap, he⟩ := Arr.form hT
          rw [he] at hc0 hT
          have c0 := kr.cell hc0
          obtain ⟨eo', ecap', hv', q1, q2, -, q3⟩ := id hT
          injection hv' with e1' e2' e3'
          subst e1'
          subst e3'
          clear e2'
          unfold maxLen at q2
          obtain ⟨ht1, ht2⟩ := HG.out.tab k hlt
          have HS := Lib.hid (flatMap_take_succ tabB m.Tables k hlt)
          have HTB := Lib.hid (show tabB (nth m.Tables k) = bigB ((nth m.Tables k).length : Nat) 1 ++ (nth m.Tables k).flatMap (fun n => bigB n 2) from rfl)
          have hLk : (L5 ++ (m.Tables.take k).flatMap tabB).length ≤ 10000 := by
            have h1 := flatMap_bound tabB 41 (m.Tables.take k) fun t ht => by
              obtain ⟨i, hi, he⟩ := List.getElem_of_mem ht
              simp at hi he
              have h2 := (HG.out.tab i (by omega)).1
              rw [nth_eq _ _ (show i < m.Tables.length by omega), he] at h2
              have h3 := flatMap_bound (fun n => bigB n 2) 2 t fun _ _ => by rw [bigB_len]; omega
              simp only [tabB, List.length_append, bigB_len]
              omega
            have h2 : (m.Tables.take k).length ≤ 20 := by simp; omega
            rw [List.length_append]
            omega
          obtain ⟨LK, hLK⟩ : ∃ L, L = L5 ++ (m.Tables.take k).flatMap tabB := ⟨_, rfl⟩
          rw [← hLK] at ho hLk
          obtain ⟨a6, c6, e6⟩ := own_form' ho
          subst e6
          have HO := Lib.hid ho
          have HLK := Lib.hid hLK
          have HDT := Lib.hid ht2
          generalize nth m.Tables k = tk at *
          clear hc t23 rv he hLK hT ho ht2
          have HB1 := Lib.hid (show [(tk.length : Int)] = bigB (tk.length : Nat) 1 by simp [bigB]; omega)
          go_wp2_with (first
            | (at_builtin; refine wpList_pushes (by rfl) (.tmp 87) (.tmp 95) 22 (by rfl) Try.underlying22 info_u8 (by rfl) (by decide) (base := w2.heap.size) (f := cu) (l := LK) (by rfl) (by exact HO.out.keep (by repeat (with_reducible (first | assumption | exact Keeps.refl _ | refine Keeps.alloc ?_ _ | refine Keeps.drew ?_ | refine Keeps.drewN ?_ _)))) [(tk.length : Int)] _ _ (by rfl) (by exact Blk.top' _ _ (by first | rfl | simp)) cu_len cu_one (by simp; omega) (by simp [maxLen]; omega) (by first | omega | (simp only [sz_alloc]; omega)) ?_; intro v7 w7 hown7 hbel7 hgr7 hfr7; have hk7 : Keeps w2 w7 := Below.trans (kr.alloc _) hbel7; (try clear j2); have j2 := hk7.cell i2; (try clear c0); have c0 := hk7.cell hc0; obtain ⟨M1, hM1⟩ : ∃ L, L = LK ++ [(tk.length : Int)] := ⟨_, rfl⟩; rw [← hM1] at hown7; have hlM1 : M1.length ≤ 10001 := (by rw [hM1]; simp only [List.length_append, List.length_cons, List.length_nil]; omega); obtain ⟨a7, c7, e7⟩ := own_form' hown7; subst e7; have HM1 := Lib.hid hM1; have HO := Lib.hid hown7; clear hown7 hbel7 hgr7 hfr7 hM1; have hs7 := hk7.size))
          rw [HB1.out] at HM1
          clear HB1
          go_wp2_with fail
          obtain ⟨wo, hwo⟩ : ∃ wo : World, wo = wr := ⟨_, rfl⟩
          go_loopw [5, 8] (fun s5 s8 wi => ∃ j : Nat, j ≤ tk.length ∧ s8 = .int .i64 j ∧ Keeps w2 wi ∧ Own wi w2.heap.size 5 1 cu s5 (M1 ++ (tk.take j).flatMap (fun n => bigB n 2))) (fun _ s8 _ => tk.length - (intOf s8).toNat)
          case atStart => exact ⟨0, Nat.zero_le _, rfl, hk7, by simpa using HO.out⟩
          case round =>
            obtain ⟨j, hj, rfl, ki, ho⟩ := hrel
            have j2 := ki.cell i2
            have c0 := ki.cell hc0
            have hsi := ki.size
            by_cases hlj : j < tk.length
            · obtain ⟨b2, off2, rfl, hc2⟩ := q3 (by omega)
              have c1 : wr.cell? ⟨b2, off2 + j, none⟩ = some (.int .i64 (nth tk j)) := (hkw.trans ki).cell (by simpa using hc2 j 0 hlj (by omega))
              have HSJ := Lib.hid (flatMap_take_succ (fun n => bigB n 2) tk j hlj)
              obtain ⟨hx1, hx2⟩ := HDT.out j hlj
              have hLj : (M1 ++ (tk.take j).flatMap (fun n => bigB n 2)).length ≤ 10041 := by
                have h3 := flatMap_bound (fun n => bigB n 2) 2 (tk.take j) fun _ _ => by rw [bigB_len]; omega
                have h4 : (tk.take j).length ≤ 20 := by simp; omega
                rw [List.length_append]
                omega
              obtain ⟨LJ, hLJ⟩ : ∃ L, L = M1 ++ (tk.take j).flatMap (fun n => bigB n 2) := ⟨_, rfl⟩
              rw [← hLJ] at ho hLj
              obtain ⟨a8, c8, e8⟩ := own_form' ho
              subst e8
              have HO := Lib.hid ho
              have HLJ := Lib.hid hLJ
              generalize nth tk j = x at *
              clear hc2 q3 ho hLJ
              go_wp2_with fail
              refine (big_2 (x) (by omega) (by omega) _).mono ?_
              rintro e wA ⟨vb, rfl, hvb, hkA⟩
              obtain ⟨ab, cb', eb⟩ := own_form' hvb
              rw [bigB_len] at eb
              subst eb
              have HV := Lib.hid (src_arr (P := Try.prog) (tx := 22) (e := 5) (by decide) cu_len cu_one Try.underlying22 (hvb.arr cu_len))
              have HO2 := Lib.hid (HO.out.keep hkA)
              have hkB : Keeps w2 wA := ki.trans hkA
              have hsB := hkB.size
              clear hvb hkA HO
              go_wp2_with (at_builtin; refine wpList_onto (by rfl) (.tmp 107) (.tmp 116) 22 22 (by rfl) Try.underlying22 info_u8 (by rfl) (base := w2.heap.size) (f := cu) (l := LJ) (by rfl) (by exact HO2.out) (ys := bigB (x) 2) (by rfl) (by exact HV.out) (by rw [bigB_len]; omega) (by rw [bigB_len]; unfold maxLen; omega) (by first | omega | (simp only [sz_alloc]; omega)) ?_; intro v7 w7 hown7 hbel7 hgr7 hfr7; have hk7 : Keeps w2 w7 := Below.trans (hkB) hbel7; obtain ⟨M4, hM4⟩ : ∃ L, L = LJ ++ bigB (x) 2 := ⟨_, rfl⟩; rw [← hM4] at hown7; have hlM4 : M4.length ≤ 10043 := (by rw [hM4]; simp only [List.length_append, bigB_len]; omega); obtain ⟨a7, c7, e7⟩ := own_form' hown7; subst e7; have HM4 := Lib.hid hM4; have HO := Lib.hid hown7; clear hown7 hbel7 hgr7 hfr7 hM4; have hs7 := hk7.size)
              go_wp2_with fail
              go_roundw
              case rel =>
                refine ⟨j + 1, by omega, by go_num, hk7, ?_⟩
                have h := HO.out
                rw [HM4.out, HLJ.out] at h
                rw [HM4.out, HLJ.out, HSJ.out, ← List.append_assoc]
                exact h
              case measure => simp [intOf]; omega
            · obtain rfl : j = tk.length := by omega
              rw [List.take_length] at ho
              have HO := Lib.hid ho
              clear ho
              go_wp2_with fail
              go_roundw
              case rel =>
                refine ⟨k + 1, by omega, by go_num, ki, ?_⟩
                have h := HO.out
                rw [HM1.out, HLK.out] at h
                rw [HS.out, HTB.out]
                simpa [List.append_assoc] using h
              case measure => simp [intOf]; omega
        · obtain rfl : k = m.Tables.length := by omega
          rw [List.take_length] at ho
          have hb2 : (m.Tables.flatMap tabB).length ≤ 820 := by
            have h1 := flatMap_bound tabB 41 m.Tables fun t ht => by
              obtain ⟨i, hi, he⟩ := List.getElem_of_mem ht
              have h2 := (HG.out.tab i hi).1
              rw [nth_eq _ _ hi, he] at h2
              have h3 := flatMap_bound (fun n => bigB n 2) 2 t fun _ _ => by rw [bigB_len]; omega
              simp only [tabB, List.length_append, bigB_len]
              omega
            omega
          have j3 := kr.cell i3
          obtain ⟨L6, hL6⟩ : ∃ L, L = L5 ++ m.Tables.flatMap tabB := ⟨_, rfl⟩
          have hlL6 : L6.length ≤ 9629 := by rw [hL6, List.length_append]; omega
          rw [← hL6] at ho
          obtain ⟨a6, c6, e6⟩ := own_form' ho
          subst e6
          have HO := Lib.hid ho
          have HL6 := Lib.hid hL6
          clear hL6 hb2 ho
          have HB1 := Lib.hid (show [(m.Data.length : Int)] = bigB (m.Data.length : Nat) 1 by simp [bigB]; omega)
          go_wp2_with (first
            | (at_builtin; refine wpList_pushes (by rfl) (.tmp 118) (.tmp 123) 22 (by rfl) Try.underlying22 info_u8 (by rfl) (by decide) (base := w2.heap.size) (f := cu) (l := L6) (by rfl) (by exact HO.out.keep (by repeat (with_reducible (first | assumption | exact Keeps.refl _ | refine Keeps.alloc ?_ _ | refine Keeps.drew ?_ | refine Keeps.drewN ?_ _)))) [(m.Data.length : Int)] _ _ (by rfl) (by exact Blk.top' _ _ (by first | rfl | simp)) cu_len cu_one (by simp; omega) (by simp [maxLen]; omega) (by first | omega | (simp only [sz_alloc]; omega)) ?_; intro v7 w7 hown7 hbel7 hgr7 hfr7; have hk7 : Keeps w2 w7 := Below.trans (kr.alloc _) hbel7; (try clear j3); have j3 := hk7.cell i3; obtain ⟨L7, hL7⟩ : ∃ L, L = L6 ++ [(m.Data.length : Int)] := ⟨_, rfl⟩; rw [← hL7] at hown7; have hlL7 : L7.length ≤ 9630 := (by rw [hL7]; simp only [List.length_append, List.length_cons, List.length_nil]; omega); obtain ⟨a7, c7, e7⟩ := own_form' hown7; subst e7; have HL7 := Lib.hid hL7; have HO := Lib.hid hown7; clear hown7 hbel7 hgr7 hfr7 hL7; have hs7 := hk7.size))
          rw [HB1.out] at HL7
          clear HB1
          go_wp2_with fail
          go_loopw [5, 9] (fun s5 s9 wr => ∃ k : Nat, k ≤ m.Data.length ∧ s9 = .int .i64 k ∧ Keeps w2 wr ∧ Own wr w2.heap.size 5 1 cu s5 (L7 ++ (m.Data.take k).flatMap (fun n => bigB n 8))) (fun _ s9 _ => m.Data.length - (intOf s9).toNat)
          case atStart => exact ⟨0, Nat.zero_le _, rfl, hk7, by simpa using HO.out⟩
          case round =>
            obtain ⟨k, hk, rfl, kr, ho⟩ := hrel
            have j3 := kr.cell i3
            have hsr := kr.size
            by_cases hlt : k < m.Data.length
            · obtain ⟨b, off, rfl, hc⟩ := t33 (by omega)
              have c0 : wr.cell? ⟨b, off + k, none⟩ = some (.int .i64 (nth m.Data k)) := (hkw.trans kr).cell (by simpa using hc k 0 hlt (by omega))
              have HSJ := Lib.hid (flatMap_take_succ (fun n => bigB n 8) m.Data k hlt)
              obtain ⟨hx1, hx2⟩ := HG.out.dat k hlt
              have hLj : (L7 ++ (m.Data.take k).flatMap (fun n => bigB n 8)).length ≤ 10142 := by
                have h3 := flatMap_bound (fun n => bigB n 8) 8 (m.Data.take k) fun _ _ => by rw [bigB_len]; omega
                have h4 : (m.Data.take k).length ≤ 64 := by simp; omega
                rw [List.length_append]
                omega
              obtain ⟨LJ, hLJ⟩ : ∃ L, L = L7 ++ (m.Data.take k).flatMap (fun n => bigB n 8) := ⟨_, rfl⟩
              rw [← hLJ] at ho hLj
              obtain ⟨a8, c8, e8⟩ := own_form' ho
              subst e8
              have HO := Lib.hid ho
              have HLJ := Lib.hid hLJ
              generalize nth m.Data k = x at *
              clear hc t33 ho hLJ
              go_wp2_with fail
              refine (big_8 (x) (by omega) (by omega) _).mono ?_
              rintro e wA ⟨vb, rfl, hvb, hkA⟩
              obtain ⟨ab, cb', eb⟩ := own_form' hvb
              rw [bigB_len] at eb
              subst eb
              have HV := Lib.hid (src_arr (P := Try.prog) (tx := 22) (e := 5) (by decide) cu_len cu_one Try.underlying22 (hvb.arr cu_len))
              have HO2 := Lib.hid (HO.out.keep hkA)
              have hkB : Keeps w2 wA := kr.trans hkA
              have hsB := hkB.size
              clear hvb hkA HO
              go_wp2_with (at_builtin; refine wpList_onto (by rfl) (.tmp 132) (.tmp 138) 22 22 (by rfl) Try.underlying22 info_u8 (by rfl) (base := w2.heap.size) (f := cu) (l := LJ) (by rfl) (by exact HO2.out) (ys := bigB (x) 8) (by rfl) (by exact HV.out) (by rw [bigB_len]; omega) (by rw [bigB_len]; unfold maxLen; omega) (by first | omega | (simp only [sz_alloc]; omega)) ?_; intro v7 w7 hown7 hbel7 hgr7 hfr7; have hk7 : Keeps w2 w7 := Below.trans (hkB) hbel7; obtain ⟨M4, hM4⟩ : ∃ L, L = LJ ++ bigB (x) 8 := ⟨_, rfl⟩; rw [← hM4] at hown7; have hlM4 : M4.length ≤ 10150 := (by rw [hM4]; simp only [List.length_append, bigB_len]; omega); obtain ⟨a7, c7, e7⟩ := own_form' hown7; subst e7; have HM4 := Lib.hid hM4; have HO := Lib.hid hown7; clear hown7 hbel7 hgr7 hfr7 hM4; have hs7 := hk7.size)
              go_wp2_with fail
              go_roundw
              case rel =>
                refine ⟨k + 1, by omega, by go_num, hk7, ?_⟩
                have h := HO.out
                rw [HM4.out, HLJ.out] at h
                rw [HM4.out, HLJ.out, HSJ.out, ← List.append_assoc]
                exact h
              case measure => simp [intOf]; omega
            · obtain rfl : k = m.Data.length := by omega
              rw [List.take_length] at ho
              have hb3 : (m.Data.flatMap fun n => bigB n 8).length ≤ 512 := by
                have h3 := flatMap_bound (fun n => bigB n 8) 8 m.Data fun _ _ => by rw [bigB_len]; omega
                omega
              have j4 := kr.cell i4
              obtain ⟨L8, hL8⟩ : ∃ L, L = L7 ++ m.Data.flatMap (fun n => bigB n 8) := ⟨_, rfl⟩
              have hlL8 : L8.length ≤ 10142 := by rw [hL8, List.length_append]; omega
              rw [← hL8] at ho
              obtain ⟨a8, c8, e8⟩ := own_form' ho
              subst e8
              have HO := Lib.hid ho
              have HL8 := Lib.hid hL8
              clear hL8 hb3 ho
              go_wp2_with fail
              refine (big_2 ((m.Lines.length : Nat)) (by omega) (by omega) _).mono ?_
              rintro e wA ⟨vb, rfl, hvb, hkA⟩
              obtain ⟨ab, cb', eb⟩ := own_form' hvb
              rw [bigB_len] at eb
              subst eb
              have HV := Lib.hid (src_arr (P := Try.prog) (tx := 22) (e := 5) (by decide) cu_len cu_one Try.underlying22 (hvb.arr cu_len))
              have HO2 := Lib.hid (HO.out.keep hkA)
              have hkB : Keeps w2 wA := kr.trans hkA
              have hsB := hkB.size
              have j4 := hkB.cell i4
              clear hvb hkA HO
              go_wp2_with (at_builtin; refine wpList_onto (by rfl) (.tmp 140) (.tmp 144) 22 22 (by rfl) Try.underlying22 info_u8 (by rfl) (base := w2.heap.size) (f := cu) (l := L8) (by rfl) (by exact HO2.out) (ys := bigB ((m.Lines.length : Nat)) 2) (by rfl) (by exact HV.out) (by rw [bigB_len]; omega) (by rw [bigB_len]; unfold maxLen; omega) (by first | omega | (simp only [sz_alloc]; omega)) ?_; intro v7 w7 hown7 hbel7 hgr7 hfr7; have hk7 : Keeps w2 w7 := Below.trans (hkB) hbel7; (try clear j4); have j4 := hk7.cell i4; obtain ⟨L9, hL9⟩ : ∃ L, L = L8 ++ bigB ((m.Lines.length : Nat)) 2 := ⟨_, rfl⟩; rw [← hL9] at hown7; have hlL9 : L9.length ≤ 10144 := (by rw [hL9]; simp only [List.length_append, bigB_len]; omega); obtain ⟨a7, c7, e7⟩ := own_form' hown7; subst e7; have HL9 := Lib.hid hL9; have HO := Lib.hid hown7; clear hown7 hbel7 hgr7 hfr7 hL9; have hs7 := hk7.size)
              go_wp2_with fail
              go_loopw [5, 10] (fun s5 s10 wr => ∃ k : Nat, k ≤ m.Lines.length ∧ s10 = .int .i64 k ∧ Keeps w2 wr ∧ Own wr w2.heap.size 5 1 cu s5 (L9 ++ (m.Lines.take k).flatMap lineB)) (fun _ s10 _ => m.Lines.length - (intOf s10).toNat)
              case atStart => exact ⟨0, Nat.zero_le _, rfl, hk7, by simpa using HO.out⟩
              case round =>
                obtain ⟨k, hk, rfl, kr, ho⟩ := hrel
                have j4 := kr.cell i4
                have hsr := kr.size
                by_cases hlt : k < m.Lines.length
                · obtain ⟨b, off, rfl, hc⟩ := t43 (by omega)
                  have hc0 : w2.cell? ⟨b, off + k * 2, none⟩ = some (.int .i64 (nth m.Lines k).At) := hkw.cell (by simpa [Ln.c] using hc k 0 hlt (by omega))
                  have hc1 : w2.cell? ⟨b, off + k * 2 + 1, none⟩ = some (.int .i64 (nth m.Lines k).N) := hkw.cell (by simpa [Ln.c] using hc k 1 hlt (by omega))
                  have c0 := kr.cell hc0
                  obtain ⟨hx1, hx2, hx3, hx4⟩ := HG.out.line k hlt
                  have hx5 := lastAt_ge HG.out k (by omega)
                  have HS := Lib.hid (flatMap_take_succ lineB m.Lines k hlt)
                  have HLB := Lib.hid (show lineB (nth m.Lines k) = bigB (nth m.Lines k).At 2 ++ bigB (nth m.Lines k).N 2 from rfl)
                  have hLk : (L9 ++ (m.Lines.take k).flatMap lineB).length ≤ 26144 := by
                    have h3 := flatMap_bound lineB 4 (m.Lines.take k) fun _ _ => by simp only [lineB, List.length_append, bigB_len]; omega
                    have h4 : (m.Lines.take k).length ≤ 4000 := by simp; omega
                    rw [List.length_append]
                    omega
                  obtain ⟨LK, hLK⟩ : ∃ L, L = L9 ++ (m.Lines.take k).flatMap lineB := ⟨_, rfl⟩
                  rw [← hLK] at ho hLk
                  obtain ⟨a9, c9, e9⟩ := own_form' ho
                  subst e9
                  have HO := Lib.hid ho
                  have HLK := Lib.hid hLK
                  generalize lastAt m.Lines k = la at *
                  generalize nth m.Lines k = lk at *
                  obtain ⟨lA, lN⟩ := lk
                  simp only [] at hc0 hc1 c0 HLB hx1 hx2 hx3 hx4
                  clear hc t43 hLK ho
                  go_wp2_with fail
                  refine (big_2 (lA) (by omega) (by omega) _).mono ?_
                  rintro e wA ⟨vb, rfl, hvb, hkA⟩
                  obtain ⟨ab, cb', eb⟩ := own_form' hvb
                  rw [bigB_len] at eb
                  subst eb
                  have HV := Lib.hid (src_arr (P := Try.prog) (tx := 22) (e := 5) (by decide) cu_len cu_one Try.underlying22 (hvb.arr cu_len))
                  have HO2 := Lib.hid (HO.out.keep hkA)
                  have hkB : Keeps w2 wA := kr.trans hkA
                  have hsB := hkB.size
                  have j4 := hkB.cell i4
                  clear hvb hkA HO
                  go_wp2_with (at_builtin; refine wpList_onto (by rfl) (.tmp 153) (.tmp 160) 22 22 (by rfl) Try.underlying22 info_u8 (by rfl) (base := w2.heap.size) (f := cu) (l := LK) (by rfl) (by exact HO2.out) (ys := bigB (lA) 2) (by rfl) (by exact HV.out) (by rw [bigB_len]; omega) (by rw [bigB_len]; unfold maxLen; omega) (by first | omega | (simp only [sz_alloc]; omega)) ?_; intro v7 w7 hown7 hbel7 hgr7 hfr7; have hk7 : Keeps w2 w7 := Below.trans (hkB) hbel7; (try clear j4); have j4 := hk7.cell i4; (try clear c1); have c1 := hk7.cell hc1; obtain ⟨M1, hM1⟩ : ∃ L, L = LK ++ bigB (lA) 2 := ⟨_, rfl⟩; rw [← hM1] at hown7; have hlM1 : M1.length ≤ 26146 := (by rw [hM1]; simp only [List.length_append, bigB_len]; omega); obtain ⟨a7, c7, e7⟩ := own_form' hown7; subst e7; have HM1 := Lib.hid hM1; have HO := Lib.hid hown7; clear hown7 hbel7 hgr7 hfr7 hM1; have hs7 := hk7.size)
                  go_wp2_with fail
                  refine (big_2 (lN) (by omega) (by omega) _).mono ?_
                  rintro e wA ⟨vb, rfl, hvb, hkA⟩
                  obtain ⟨ab, cb', eb⟩ := own_form' hvb
                  rw [bigB_len] at eb
                  subst eb
                  have HV := Lib.hid (src_arr (P := Try.prog) (tx := 22) (e := 5) (by decide) cu_len cu_one Try.underlying22 (hvb.arr cu_len))
                  have HO2 := Lib.hid (HO.out.keep hkA)
                  have hkB : Keeps w2 wA := hk7.trans hkA
                  have hsB := hkB.size
                  have j4 := hkB.cell i4
                  clear hvb hkA HO
                  go_wp2_with (at_builtin; refine wpList_onto (by rfl) (.tmp 162) (.tmp 169) 22 22 (by rfl) Try.underlying22 info_u8 (by rfl) (base := w2.heap.size) (f := cu) (l := M1) (by rfl) (by exact HO2.out) (ys := bigB (lN) 2) (by rfl) (by exact HV.out) (by rw [bigB_len]; omega) (by rw [bigB_len]; unfold maxLen; omega) (by first | omega | (simp only [sz_alloc]; omega)) ?_; intro v7 w7 hown7 hbel7 hgr7 hfr7; have hk7 : Keeps w2 w7 := Below.trans (hkB) hbel7; obtain ⟨M2, hM2⟩ : ∃ L, L = M1 ++ bigB (lN) 2 := ⟨_, rfl⟩; rw [← hM2] at hown7; have hlM2 : M2.length ≤ 26148 := (by rw [hM2]; simp only [List.length_append, bigB_len]; omega); obtain ⟨a7, c7, e7⟩ := own_form' hown7; subst e7; have HM2 := Lib.hid hM2; have HO := Lib.hid hown7; clear hown7 hbel7 hgr7 hfr7 hM2; have hs7 := hk7.size)
                  go_wp2_with fail
                  go_roundw
                  case rel =>
                    refine ⟨k + 1, by omega, by go_num, hk7, ?_⟩
                    have h := HO.out
                    rw [HM2.out, HM1.out, HLK.out] at h
                    rw [HM2.out, HM1.out, HLK.out, HS.out, HLB.out]
                    simpa [List.append_assoc] using h
                  case measure => simp [intOf]; omega
                · obtain rfl : k = m.Lines.length := by omega
                  rw [List.take_length] at ho
                  have HZ : Hid (Octs wr _ (imgB m)) := Lib.hid (by
                    have h := ho
                    rw [HL9.out, HL8.out, HL7.out, HL6.out, HL5.out, HL4.out, HL3.out, HL2.out, HL1.out] at h
                    rw [HI.out]
                    simpa [List.append_assoc] using own_octs h)
                  clear ho
                  go_wp2_with fail
                  go_ret2
                  exact ⟨_, rfl, HZ.out, hkw.trans kr⟩
end Go.Proofs.Ytpgifkhgefbnfaa
