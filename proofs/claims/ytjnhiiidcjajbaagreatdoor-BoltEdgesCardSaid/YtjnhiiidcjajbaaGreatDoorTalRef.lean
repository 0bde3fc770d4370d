/-
  The document's EdgesOf: the edges that a text tells, or what is wrong.
-/
import Derived.Test.YtjnhiiidcjajbaaGreatDoorTalRead
import Derived.Deep.RegionHeld3
import Derived.Deep.DeepCutAuto
import Derived.Deep.RegionLaw
namespace Go.Proofs.YtjnhiiidcjajbaaGreatDoor
open Go.RowKit BH Go.Lib Go.Shelf Go.Sort
set_option maxHeartbeats 100000000
set_option maxRecDepth 100000
def cst (x : ByteArray) : List Value := [.string x]
theorem cst_len (x : ByteArray) : (cst x).length = 1 := rfl
theorem cst_one (x : ByteArray) : ∀ u ∈ cst x, u.oneCell' = true := by intro u hu; simp only [cst, List.mem_singleton] at hu; subst hu; rfl
theorem info_string : (Tryz.prog.info? 9).map (fun i => (i.zero, i.size, i.bytes)) = some (some (.string ByteArray.empty), 1, 16) := by kernel_rfl
theorem cells3 {w : World} {base : Nat} {e : TypeId} {v : Value} {p0 p1 p2 : ByteArray} (H : Own w base e 1 cst v [p0, p1, p2]) :
    ∃ g cap, v = .slice (some ⟨g, 0, none⟩) 3 cap ∧ base ≤ g ∧ g < w.heap.size ∧ w.cell? ⟨g, 0, none⟩ = some (.string p0) ∧ w.cell? ⟨g, 1, none⟩ = some (.string p1) ∧ w.cell? ⟨g, 2, none⟩ = some (.string p2) := by
  obtain ⟨h1, h2⟩ := H
  rcases h2 with ⟨rfl, h0⟩ | ⟨g, cap, cur, rfl, hb, hg, hn, hc, hs, ht⟩
  · cases h0
  · have ht' : cur.toList.take 3 = [.string p0, .string p1, .string p2] := ht
    have hat : ∀ j, j < 3 → cur[j]? = ([Value.string p0, .string p1, .string p2] : List Value)[j]? := fun j hj => by
      rw [← ht', List.getElem?_take_of_lt hj, Array.getElem?_toList]
    exact ⟨g, cap, rfl, hb, lt_of_block hg, Blk.cell hg (hat 0 (by decide)), Blk.cell hg (hat 1 (by decide)), Blk.cell hg (hat 2 (by decide))⟩
theorem toC_step (c : UInt8) {l : List UInt8} {k : Nat} (hk : k < l.length) (h : nth l k ≠ c) : toC c (l.drop k) = toC c (l.drop (k + 1)) + 1 := by
  rw [drop_nth l k hk]
  show (if nth l k = c then 0 else toC c (l.drop (k + 1)) + 1) = _
  rw [if_neg h]
theorem toC_stop (c : UInt8) {l : List UInt8} {k : Nat} (hk : k < l.length) (h : nth l k = c) : toC c (l.drop k) = 0 := by
  rw [drop_nth l k hk]
  show (if nth l k = c then 0 else toC c (l.drop (k + 1)) + 1) = _
  rw [if_pos h]
theorem toC_end (c : UInt8) (l : List UInt8) : toC c (l.drop l.length) = 0 := by rw [List.drop_length]; rfl
theorem ext_list (s : ByteArray) (a b : Nat) : (s.extract a b).data.toList = (s.data.toList.take b).drop a := by
  rw [extract_data, List.drop_take]
/-- pieces of a line as they are found: at the place i, from fr on -/
def PcSt (L : List UInt8) (en : Nat) (T : List (List UInt8)) (ps : List ByteArray) (fr i : Nat) : Prop :=
  if i ≤ en then splA 32 (ps.map (·.data.toList)) ((L.take i).drop fr) ((L.take en).drop i) = T else ps.map (·.data.toList) = T
theorem pc_add {L : List UInt8} {en : Nat} {T : List (List UInt8)} {ps : List ByteArray} {fr i : Nat} {s : ByteArray} (hs : s.data.toList = L) (h : PcSt L en T ps fr i) (hi : i ≤ en) (hen : en ≤ L.length) (hc : i = en ∨ nth L i = 32) : PcSt L en T (ps ++ [s.extract fr i]) (i + 1) (i + 1) := by
  unfold PcSt at h ⊢
  rw [if_pos hi] at h
  have hm : (ps ++ [s.extract fr i]).map (·.data.toList) = ps.map (·.data.toList) ++ [(L.take i).drop fr] := by
    rw [List.map_append, List.map_cons, List.map_nil, ext_list, hs]
  rcases Nat.lt_or_ge i en with q | q
  · have h32 : nth L i = 32 := by
      rcases hc with z | z
      · omega
      · exact z
    have hd : (L.take en).drop i = 32 :: (L.take en).drop (i + 1) := by
      have hl : i < (L.take en).length := by rw [List.length_take]; omega
      rw [drop_nth _ i hl]
      have : nth (L.take en) i = nth L i := by rw [nth_eq _ _ hl, List.getElem_take, ← nth_eq _ _ (by omega)]
      rw [this, h32]
    rw [hd] at h
    rw [if_pos (by omega), hm]
    have he : (L.take (i + 1)).drop (i + 1) = [] := List.drop_eq_nil_of_le (by rw [List.length_take]; omega)
    rw [he]
    exact h
  · obtain rfl : i = en := by omega
    have hd : (L.take i).drop i = [] := List.drop_eq_nil_of_le (by rw [List.length_take]; omega)
    rw [hd] at h
    rw [if_neg (by omega), hm]
    exact h
theorem pc_skip {L : List UInt8} {en : Nat} {T : List (List UInt8)} {ps : List ByteArray} {fr i : Nat} (h : PcSt L en T ps fr i) (hf : fr ≤ i) (hi : i < en) (hen : en ≤ L.length) (hc : nth L i ≠ 32) : PcSt L en T ps fr (i + 1) := by
  unfold PcSt at h ⊢
  rw [if_pos (by omega)] at h
  rw [if_pos (by omega)]
  have hl : i < (L.take en).length := by rw [List.length_take]; omega
  have hd : (L.take en).drop i = nth L i :: (L.take en).drop (i + 1) := by
    rw [drop_nth _ i hl]
    have : nth (L.take en) i = nth L i := by rw [nth_eq _ _ hl, List.getElem_take, ← nth_eq _ _ (by omega)]
    rw [this]
  have hc2 : (L.take (i + 1)).drop fr = (L.take i).drop fr ++ [nth L i] := by
    rw [take_succ_nth _ _ (by omega), List.drop_append_of_le_length (by rw [List.length_take]; omega)]
  rw [hd] at h
  rw [hc2, ← h]
  show _ = (if nth L i = 32 then _ else _)
  rw [if_neg hc]
theorem edgesOf_any (s : ByteArray) (w : World) : Calls Tryz.prog 6 #[.string s] w (GivesN (fun v w' => Edges w' v (tallyS s.data.toList).2) (tallyS s.data.toList).1 w) := by
  have hlen := size_list s
  by_cases hbig : 4000 < s.size
  · have hR : tallyS s.data.toList = (1, []) := by unfold tallyS; rw [if_pos (by omega)]
    rw [hR]
    have t0 : decide (4000 < (s.size : Int)) = true := decide_eq_true (by omega)
    clear hR hlen
    go_enter Tryz.func6, Tryz.ntmps6
    go_wp2_with fail
    refine bodyPost_ret (results_tmp2 rfl _ _ _) rfl ?_
    exact ⟨.slice none 0 0, rfl, edges_nil _, Keeps.refl _⟩
  · have t0 : decide (4000 < (s.size : Int)) = false := decide_eq_false (by omega)
    have hR : tallyS s.data.toList = readS (s.size + 1) [] s.data.toList := by unfold tallyS; rw [if_neg (by omega), hlen]
    obtain ⟨R, hRR⟩ : ∃ R, R = tallyS s.data.toList := ⟨_, rfl⟩
    rw [← hRR]
    have hR0 := hR.symm.trans hRR.symm
    obtain ⟨L, hL⟩ : ∃ L, L = s.data.toList := ⟨_, rfl⟩
    rw [← hL] at hR0 hlen
    have HBY : Hid (∀ k (h : k < s.size), s[k] = nth L k) := Lib.hid fun k h => by rw [hL]; exact byte_at s k h
    have HLS := Lib.hid hL.symm
    have HR0 := Lib.hid (show readS (s.size + 1) [] (L.drop 0) = R from hR0)
    have HLEN := Lib.hid hlen
    clear hR hRR hR0 hL hlen
    have HCI : Hid (∃ Q : ByteArray → Int, (∀ p, Q p = countR p.data.toList) ∧ ∀ p w, Calls Tryz.prog 14 #[.string p] w fun e w' => e = .returned (.int .i64 (Q p)) ∧ w = w') := Lib.hid ⟨fun p => countR p.data.toList, fun _ => rfl, fun p w => countIn_any p w⟩
    obtain ⟨Q, hQe, hQc⟩ := HCI.out
    have HQE := Lib.hid hQe
    have HQC := Lib.hid hQc
    clear hQe hQc HCI
    go_enter Tryz.func6, Tryz.ntmps6
    go_wp2_with fail
    go_loopw [4, 5] (fun s4 s5 wr => ∃ (at0 : Nat) (acc : List Ed) (fu : Nat), s5 = .int .i64 at0 ∧ at0 ≤ s.size ∧ s.size - at0 + acc.length ≤ 4000 ∧ s.size - at0 < fu ∧ Hid (Own wr w.heap.size 43 3 ced s4 acc) ∧ Hid (Keeps w wr) ∧ Hid (readS fu acc (L.drop at0) = R)) (fun _ s5 _ => s.size - (RowKit.intOf s5).toNat)
    case atStart => exact ⟨0, [], s.size + 1, rfl, Nat.zero_le _, by simp; omega, by omega, Lib.hid (Own.nil _ _ _ _ _), Lib.hid (Keeps.refl _), HR0⟩
    case round =>
      obtain ⟨at0, acc, fu, rfl, hat, hsz, hfu, HO, HK, HRD⟩ := hrel
      obtain ⟨a4, c4, e4⟩ := own_form' HO.out
      obtain ⟨NA, hNA⟩ : ∃ NA, NA = acc.length := ⟨_, rfl⟩
      rw [← hNA] at e4
      subst e4
      obtain ⟨f1, rfl⟩ : ∃ f1, fu = f1 + 1 := ⟨fu - 1, by omega⟩
      have hlen := HLEN.out
      by_cases hlt : at0 < s.size
      case neg =>
        obtain rfl : at0 = s.size := by omega
        have hr : R = (0, acc) := by
          rw [← HRD.out, ← hlen, List.drop_length]
          rfl
        have HRE := Lib.hid hr
        clear hr hlen hNA
        go_wp2_with fail
        refine bodyPost_ret (results_tmp2 rfl _ _ _) rfl ?_
        exact ⟨_, by rw [HRE.out]; rfl, by rw [HRE.out]; exact own_ed HO.out, HK.out⟩
      case pos =>
      have hltz : (at0 : Int) < (s.size : Int) := by omega
      obtain ⟨wo, hwo⟩ : ∃ wo : World, wo = wr := ⟨_, rfl⟩
      subst hwo
      obtain ⟨n, hn⟩ : ∃ n, n = toC 10 (L.drop at0) := ⟨_, rfl⟩
      have hnl : at0 + n ≤ s.size := by have := toC_le 10 (L.drop at0); rw [List.length_drop] at this; omega
      obtain ⟨en, hen⟩ : ∃ en, en = at0 + n := ⟨_, rfl⟩
      have HN := Lib.hid hn
      have HEN := Lib.hid hen
      have HNA := Lib.hid hNA
      have henl : en ≤ s.size := by omega
      have hae : at0 ≤ en := by omega
      clear hn hen hlen hNA
      go_upto_block 2 with fail
      go_cut [6] (fun s6 wx => s6 = .int .i64 (en : Int) ∧ wo = wx)
      case first =>
        as_aux_lemma =>
          go_wp2_with fail
          go_loopw [6] (fun s6 wr => ∃ k : Nat, at0 ≤ k ∧ k ≤ s.size ∧ s6 = .int .i64 k ∧ Hid (k + toC 10 (L.drop k) = en) ∧ wo = wr) (fun s6 _ => s.size - (RowKit.intOf s6).toNat)
          case atStart => exact ⟨at0, Nat.le_refl _, hat, rfl, Lib.hid (by rw [HEN.out, HN.out]), rfl⟩
          case round =>
            obtain ⟨k, hk1, hk2, rfl, HT, rfl⟩ := hrel
            by_cases hk : k < s.size
            · have hkz : (k : Int) < (s.size : Int) := by omega
              have hby := HBY.out k hk
              have hkl : k < L.length := by rw [HLEN.out]; exact hk
              by_cases hc : nth L k = 10
              · have hcz : ((s[k].toNat : Int) != 10) = false := by rw [hby, hc]; rfl
                have he : en = k := by have := HT.out; rw [toC_stop 10 hkl hc] at this; omega
                have HE := Lib.hid he
                clear he hc hby
                go_wp2_with fail
                go_meet
                case rel => exact ⟨by rw [HE.out], rfl⟩
              · have hcz : ((s[k].toNat : Int) != 10) = true := by
                  have : ¬ s[k].toNat = 10 := fun e => hc (by rw [← hby]; apply UInt8.toNat.inj; rw [e]; rfl)
                  simp
                  omega
                have hT2 : k + 1 + toC 10 (L.drop (k + 1)) = en := by have := HT.out; rw [toC_step 10 hkl hc] at this; omega
                have HT2 := Lib.hid hT2
                clear hT2 hc hby
                go_wp2_with fail
                go_roundw
                case rel => exact ⟨k + 1, by omega, by omega, by go_num, HT2, by first | rfl | trivial⟩
                case measure => simp [RowKit.intOf]; omega
            · obtain rfl : k = s.size := by omega
              have he : en = s.size := by
                have h1 := HT.out
                have h2 := toC_end 10 L
                rw [HLEN.out] at h2
                omega
              have HE := Lib.hid he
              clear he
              go_wp2_with fail
              go_meet
              case rel => exact ⟨by rw [HE.out], rfl⟩
      case rest =>
        obtain ⟨rfl, rfl⟩ := hcut
        have hDn : ¬ L.drop at0 = [] := fun e => by
          have := congrArg List.length e
          rw [List.length_drop, HLEN.out] at this
          simp at this
          omega
        have hDl : (L.drop at0).length = s.size - at0 := by rw [List.length_drop, HLEN.out]
        by_cases hes : en = s.size
        case pos =>
          have tz : ((en : Int) == (s.size : Int)) = true := by simp; omega
          have hr : R = (5, []) := by
            rw [← HRD.out]
            unfold readS
            rw [if_neg hDn, if_pos]
            rw [← HN.out, hDl]
            have := HEN.out
            omega
          have HRE := Lib.hid hr
          clear hr hDn hDl hes
          go_wp2_with fail
          refine bodyPost_ret (results_tmp2 rfl _ _ _) rfl ?_
          exact ⟨.slice none 0 0, by rw [HRE.out]; rfl, by rw [HRE.out]; exact edges_nil _, HK.out⟩
        case neg =>
        have tz : ((en : Int) == (s.size : Int)) = false := by simp; omega
        obtain ⟨T, hT⟩ : ∃ T, T = spl 32 ((L.take en).drop at0) := ⟨_, rfl⟩
        have hr : R = if T.length ≠ 3 ∨ countR (nth T 0) < 0 ∨ countR (nth T 1) < 0 ∨ countR (nth T 2) < 0 then (4, []) else readS f1 (acc ++ [⟨countR (nth T 0), countR (nth T 1), countR (nth T 2)⟩]) (L.drop (en + 1)) := by
          have e1 : (L.drop at0).take n = (L.take en).drop at0 := by rw [List.drop_take, HEN.out]; congr 1; omega
          have e2 : (L.drop at0).drop (n + 1) = L.drop (en + 1) := by rw [List.drop_drop, HEN.out]; congr 1
          rw [← HRD.out]
          conv => lhs; unfold readS
          rw [if_neg hDn, if_neg (by rw [← HN.out, hDl]; have := HEN.out; omega), ← HN.out, e1, e2, ← hT]
        have HT := Lib.hid hT
        have HRT := Lib.hid hr
        have henlt : en < s.size := by omega
        clear hr hT hDn hDl hes HRD
        go_upto_block 4 with fail
        go_cut [7] (fun s7 wx => ∃ ps : List ByteArray, ps.length ≤ s.size ∧ Hid (ps.map (·.data.toList) = T) ∧ Hid (Own wx wo.heap.size 9 1 cst s7 ps) ∧ Hid (Keeps wo wx))
        case first =>
          as_aux_lemma =>
            go_wp2_with fail
            go_loopw [7, 8, 9] (fun s7 s8 s9 wr => ∃ (fr i : Nat) (ps : List ByteArray), at0 ≤ fr ∧ fr ≤ i ∧ i ≤ en + 1 ∧ s8 = .int .i64 fr ∧ s9 = .int .i64 i ∧ ps.length ≤ i ∧ Hid (PcSt L en T ps fr i) ∧ Hid (Own wr wo.heap.size 9 1 cst s7 ps) ∧ Hid (Keeps wo wr)) (fun _ _ s9 _ => en + 1 - (RowKit.intOf s9).toNat)
            case atStart =>
              refine ⟨at0, at0, [], Nat.le_refl _, Nat.le_refl _, by omega, rfl, rfl, Nat.zero_le _, Lib.hid ?_, Lib.hid (Own.nil _ _ _ _ _), Lib.hid (Keeps.refl _)⟩
              unfold PcSt
              rw [if_pos hae]
              have e0 : (L.take at0).drop at0 = [] := List.drop_eq_nil_of_le (by rw [List.length_take]; omega)
              rw [e0, HT.out]
              exact splA_spl 32 _
            case round =>
              obtain ⟨fr, i, ps, h1, h2, h3, rfl, rfl, hpl, HPC, HP, HKP⟩ := hrel
              obtain ⟨a7, c7, e7⟩ := own_form' HP.out
              subst e7
              have hsw := HKP.out.size
              by_cases hi : i ≤ en
              · have hiz : (i : Int) ≤ (en : Int) := by omega
                have hfiz : (fr : Int) ≤ (i : Int) := by omega
                have hil : i < s.size := by omega
                have hilz : (i : Int) < (s.size : Int) := by omega
                have hby := HBY.out i hil
                have hen2 : en ≤ L.length := by rw [HLEN.out]; exact henl
                by_cases hie : i = en
                · have t1 : ((i : Int) == (en : Int)) = true := by simp; omega
                  have HPC2 := Lib.hid (pc_add HLS.out HPC.out hi hen2 (Or.inl hie))
                  clear hby hen2 hie
                  go_wp2_with (at_builtin; refine wpList_pushes (by rfl) (.tmp 51) (.tmp 56) 40 (by rfl) Tryz.underlying40 info_string (by rfl) (by decide) (base := wo.heap.size) (f := cst) (l := ps) (by rfl) (by exact HP.out.keep (by repeat (with_reducible (first | assumption | exact Keeps.refl _ | refine Keeps.alloc ?_ _ | refine Keeps.drew ?_ | refine Keeps.drewN ?_ _)))) [s.extract fr i] _ _ (by rfl) (by exact Blk.top' _ _ (by first | rfl | simp)) cst_len cst_one (by simp only [List.length_cons, List.length_nil]; omega) (by simp only [List.length_cons, List.length_nil]; unfold maxLen; omega) (by first | omega | (simp only [sz_alloc]; omega)) ?_; intro v7 w7 hown7 hbel7 hgr7 hfr7)
                  have HK7 := Lib.hid (HKP.out.trans' (Below.trans (Below.mono (show Keeps wr _ from (by repeat (with_reducible (first | assumption | exact Keeps.refl _ | refine Keeps.alloc ?_ _ | refine Keeps.drew ?_ | refine Keeps.drewN ?_ _)))) hsw) hbel7) (Nat.le_refl _))
                  have HO7 := Lib.hid hown7
                  clear hown7 hbel7 hgr7 hfr7
                  go_roundw
                  case rel => exact ⟨i + 1, i + 1, ps ++ [s.extract fr i], by omega, Nat.le_refl _, by omega, by go_num, by go_num, by rw [List.length_append]; simp; omega, HPC2, HO7, HK7⟩
                  case measure => simp [RowKit.intOf]; omega
                · have t1 : ((i : Int) == (en : Int)) = false := by simp; omega
                  by_cases h32 : nth L i = 32
                  · have t2 : ((s[i].toNat : Int) == 32) = true := by rw [hby, h32]; rfl
                    have HPC2 := Lib.hid (pc_add HLS.out HPC.out hi hen2 (Or.inr h32))
                    clear hby hen2 hie h32
                    go_wp2_with (at_builtin; refine wpList_pushes (by rfl) (.tmp 51) (.tmp 56) 40 (by rfl) Tryz.underlying40 info_string (by rfl) (by decide) (base := wo.heap.size) (f := cst) (l := ps) (by rfl) (by exact HP.out.keep (by repeat (with_reducible (first | assumption | exact Keeps.refl _ | refine Keeps.alloc ?_ _ | refine Keeps.drew ?_ | refine Keeps.drewN ?_ _)))) [s.extract fr i] _ _ (by rfl) (by exact Blk.top' _ _ (by first | rfl | simp)) cst_len cst_one (by simp only [List.length_cons, List.length_nil]; omega) (by simp only [List.length_cons, List.length_nil]; unfold maxLen; omega) (by first | omega | (simp only [sz_alloc]; omega)) ?_; intro v7 w7 hown7 hbel7 hgr7 hfr7)
                    have HK7 := Lib.hid (HKP.out.trans' (Below.trans (Below.mono (show Keeps wr _ from (by repeat (with_reducible (first | assumption | exact Keeps.refl _ | refine Keeps.alloc ?_ _ | refine Keeps.drew ?_ | refine Keeps.drewN ?_ _)))) hsw) hbel7) (Nat.le_refl _))
                    have HO7 := Lib.hid hown7
                    clear hown7 hbel7 hgr7 hfr7
                    go_roundw
                    case rel => exact ⟨i + 1, i + 1, ps ++ [s.extract fr i], by omega, Nat.le_refl _, by omega, by go_num, by go_num, by rw [List.length_append]; simp; omega, HPC2, HO7, HK7⟩
                    case measure => simp [RowKit.intOf]; omega
                  · have t2 : ((s[i].toNat : Int) == 32) = false := by
                      have : ¬ s[i].toNat = 32 := fun e => h32 (by rw [← hby]; apply UInt8.toNat.inj; rw [e]; rfl)
                      simp
                      omega
                    have HPC2 := Lib.hid (pc_skip HPC.out h2 (by omega) hen2 h32)
                    clear hby hen2 h32
                    go_wp2_with fail
                    go_roundw
                    case rel => exact ⟨fr, i + 1, ps, h1, by omega, by omega, rfl, by go_num, by omega, HPC2, HP, HKP⟩
                    case measure => simp [RowKit.intOf]; omega
              · obtain rfl : i = en + 1 := by omega
                have hq := HPC.out
                unfold PcSt at hq
                rw [if_neg (by omega)] at hq
                have HQ := Lib.hid hq
                clear hq
                go_wp2_with fail
                go_meet
                case rel => exact ⟨ps, by omega, HQ, HP, HKP⟩
        case rest =>
          obtain ⟨ps, hpl, HPT, HP, HKP⟩ := hcut
          obtain ⟨w5, hw5⟩ : ∃ w5 : World, w5 = wc := ⟨_, rfl⟩
          subst hw5
          by_cases h3 : ps.length = 3
          case neg =>
            obtain ⟨a7, c7, e7⟩ := own_form' HP.out
            subst e7
            have t3 : ((ps.length : Int) != 3) = true := by simp; omega
            have hr : R = (4, []) := by
              rw [HRT.out, if_pos (Or.inl (by rw [← HPT.out, List.length_map]; exact h3))]
            have HRE := Lib.hid hr
            clear hr h3
            go_wp2_with fail
            refine bodyPost_ret (results_tmp2 rfl _ _ _) rfl ?_
            exact ⟨.slice none 0 0, by rw [HRE.out]; rfl, by rw [HRE.out]; exact edges_nil _, HK.out.trans HKP.out⟩
          case pos =>
          obtain ⟨p0, p1, p2, rfl⟩ : ∃ p0 p1 p2, ps = [p0, p1, p2] := by
            rcases ps with _ | ⟨p0, _ | ⟨p1, _ | ⟨p2, _ | ⟨p3, r⟩⟩⟩⟩
            · cases h3
            · cases h3
            · cases h3
            · exact ⟨p0, p1, p2, rfl⟩
            · simp at h3
          have hsp : T = [p0.data.toList, p1.data.toList, p2.data.toList] := HPT.out.symm
          obtain ⟨q0, hq0⟩ : ∃ q, q = Q p0 := ⟨_, rfl⟩
          obtain ⟨q1, hq1⟩ : ∃ q, q = Q p1 := ⟨_, rfl⟩
          obtain ⟨q2, hq2⟩ : ∃ q, q = Q p2 := ⟨_, rfl⟩
          have hr2 : R = if q0 < 0 ∨ q1 < 0 ∨ q2 < 0 then (4, []) else readS f1 (acc ++ [⟨q0, q1, q2⟩]) (L.drop (en + 1)) := by
            rw [HRT.out, hsp, hq0, hq1, hq2, HQE.out, HQE.out, HQE.out]
            show (if [p0.data.toList, p1.data.toList, p2.data.toList].length ≠ 3 ∨ countR p0.data.toList < 0 ∨ countR p1.data.toList < 0 ∨ countR p2.data.toList < 0 then _ else _) = _
            by_cases h : countR p0.data.toList < 0 ∨ countR p1.data.toList < 0 ∨ countR p2.data.toList < 0
            · rw [if_pos (Or.inr h), if_pos h]
            · rw [if_neg (fun z => by rcases z with z | z; exact z rfl; exact h z), if_neg h]
              rfl
          obtain ⟨g, cap, eg, hbg, hgl, c0, c1, c2⟩ := cells3 HP.out
          subst eg
          have HR2 := Lib.hid hr2
          have HO5 := Lib.hid (HO.out.keep HKP.out)
          have HK5 := Lib.hid (HK.out.trans HKP.out)
          have HC0 : Hid (∀ w, Calls Tryz.prog 14 #[.string p0] w fun e w' => e = .returned (.int .i64 q0) ∧ w = w') := Lib.hid fun w => by rw [hq0]; exact HQC.out p0 w
          have HC1 : Hid (∀ w, Calls Tryz.prog 14 #[.string p1] w fun e w' => e = .returned (.int .i64 q1) ∧ w = w') := Lib.hid fun w => by rw [hq1]; exact HQC.out p1 w
          have HC2 : Hid (∀ w, Calls Tryz.prog 14 #[.string p2] w fun e w' => e = .returned (.int .i64 q2) ∧ w = w') := Lib.hid fun w => by rw [hq2]; exact HQC.out p2 w
          clear hr2 hq0 hq1 hq2 hsp h3 HPT HRT hbg
          go_upto_region 21 with fail
          go_cut [10] (fun s10 wx => ∃ b, s10 = .pointer (some ⟨b, 0, none⟩) ∧ w5.heap.size ≤ b ∧ Hid (Blk wx b (.cells #[.int .i64 q0, .int .i64 q1, .int .i64 q2] 43)) ∧ Hid (Keeps w5 wx))
          case first =>
            as_aux_lemma =>
              go_region_held3 (fun w' => w'.cell? ⟨g, 0, none⟩ = some (.string p0) ∧ w'.cell? ⟨g, 1, none⟩ = some (.string p1) ∧ w'.cell? ⟨g, 2, none⟩ = some (.string p2))
                (exact ⟨Keeps.cell (by repeat (with_reducible (first | assumption | exact Keeps.refl _ | refine Keeps.alloc ?_ _ | refine Keeps.drew ?_ | refine Keeps.drewN ?_ _ | refine Keeps.setCell ?_ (by (try dsimp only); first | omega | (simp only [sz_alloc]; omega) | (simp only [sz_drew]; omega) | (simp only [sz_alloc, sz_drew]; omega)) _ | refine Keeps.trans ?_ (by assumption)))) c0, Keeps.cell (by repeat (with_reducible (first | assumption | exact Keeps.refl _ | refine Keeps.alloc ?_ _ | refine Keeps.drew ?_ | refine Keeps.drewN ?_ _ | refine Keeps.setCell ?_ (by (try dsimp only); first | omega | (simp only [sz_alloc]; omega) | (simp only [sz_drew]; omega) | (simp only [sz_alloc, sz_drew]; omega)) _ | refine Keeps.trans ?_ (by assumption)))) c1, Keeps.cell (by repeat (with_reducible (first | assumption | exact Keeps.refl _ | refine Keeps.alloc ?_ _ | refine Keeps.drew ?_ | refine Keeps.drewN ?_ _ | refine Keeps.setCell ?_ (by (try dsimp only); first | omega | (simp only [sz_alloc]; omega) | (simp only [sz_drew]; omega) | (simp only [sz_alloc, sz_drew]; omega)) _ | refine Keeps.trans ?_ (by assumption)))) c2⟩)
                ((first
                  | (go_at_call 14; (with_reducible show Calls _ _ #[.string p0] _ _); refine (HC0.out _).mono ?_; rintro e w' ⟨rfl, rfl⟩)
                  | (go_at_call 14; (with_reducible show Calls _ _ #[.string p1] _ _); refine (HC1.out _).mono ?_; rintro e w' ⟨rfl, rfl⟩)
                  | (go_at_call 14; (with_reducible show Calls _ _ #[.string p2] _ _); refine (HC2.out _).mono ?_; rintro e w' ⟨rfl, rfl⟩)))
              all_goals
                go_wp2_with fail
                go_meet
                case rel => exact ⟨w5.heap.size, rfl, Nat.le_refl _, Lib.hid ((Blk.top w5 _).keep ((Keeps.refl _).drew)), Lib.hid (by repeat (with_reducible (first | assumption | exact Keeps.refl _ | refine Keeps.alloc ?_ _ | refine Keeps.drew ?_ | refine Keeps.drewN ?_ _)))⟩
          case rest =>
            obtain ⟨b, rfl, hb, HB, HKX⟩ := hcut
            obtain ⟨w6, hw6⟩ : ∃ w6 : World, w6 = wc := ⟨_, rfl⟩
            subst hw6
            have x0 := HB.out.cell (j := 0) rfl
            have x1 := HB.out.cell (j := 1) rfl
            have x2 := HB.out.cell (j := 2) rfl
            clear c0 c1 c2
            by_cases d0 : q0 < 0
            · have t0' : decide (q0 < 0) = true := decide_eq_true d0
              have hr : R = (4, []) := by rw [HR2.out, if_pos (by omega)]
              have HRE := Lib.hid hr
              clear hr
              go_wp2_with fail
              refine bodyPost_ret (results_tmp2 rfl _ _ _) rfl ?_
              exact ⟨.slice none 0 0, by rw [HRE.out]; rfl, by rw [HRE.out]; exact edges_nil _, HK5.out.trans HKX.out⟩
            · have t0' : decide (q0 < 0) = false := decide_eq_false d0
              by_cases d1 : q1 < 0
              · have t1' : decide (q1 < 0) = true := decide_eq_true d1
                have hr : R = (4, []) := by rw [HR2.out, if_pos (by omega)]
                have HRE := Lib.hid hr
                clear hr
                go_wp2_with fail
                refine bodyPost_ret (results_tmp2 rfl _ _ _) rfl ?_
                exact ⟨.slice none 0 0, by rw [HRE.out]; rfl, by rw [HRE.out]; exact edges_nil _, HK5.out.trans HKX.out⟩
              · have t1' : decide (q1 < 0) = false := decide_eq_false d1
                by_cases d2 : q2 < 0
                · have t2' : decide (q2 < 0) = true := decide_eq_true d2
                  have hr : R = (4, []) := by rw [HR2.out, if_pos (by omega)]
                  have HRE := Lib.hid hr
                  clear hr
                  go_wp2_with fail
                  refine bodyPost_ret (results_tmp2 rfl _ _ _) rfl ?_
                  exact ⟨.slice none 0 0, by rw [HRE.out]; rfl, by rw [HRE.out]; exact edges_nil _, HK5.out.trans HKX.out⟩
                · have t2' : decide (q2 < 0) = false := decide_eq_false d2
                  have hr : R = readS f1 (acc ++ [⟨q0, q1, q2⟩]) (L.drop (en + 1)) := by rw [HR2.out, if_neg (by omega)]
                  have HRE := Lib.hid hr
                  have HO6 := Lib.hid (HO5.out.keep HKX.out)
                  have hsw := (HK5.out.trans HKX.out).size
                  have HK6 := Lib.hid (HK5.out.trans HKX.out)
                  have HNL := HNA.out
                  have hal : acc.length ≤ 4000 := by omega
                  clear hr d0 d1 d2 HNL
                  go_wp2_with (at_builtin; refine wpList_pushes (by rfl) (.tmp 89) (.tmp 91) 27 (by rfl) Tryz.underlying27 info_edge (by rfl) (by decide) (base := w.heap.size) (f := ced) (l := acc) (by rfl) (by exact HO6.out.keep (by repeat (with_reducible (first | assumption | exact Keeps.refl _ | refine Keeps.alloc ?_ _ | refine Keeps.drew ?_ | refine Keeps.drewN ?_ _)))) [⟨q0, q1, q2⟩] _ _ (by rfl) (by exact Blk.top' _ _ (by first | rfl | simp)) ced_len ced_one (by simp only [List.length_cons, List.length_nil]; omega) (by simp only [List.length_cons, List.length_nil]; unfold maxLen; omega) (by first | omega | (simp only [sz_alloc]; omega)) ?_; intro v7 w7 hown7 hbel7 hgr7 hfr7)
                  have HK7 := Lib.hid (HK6.out.trans' (Below.trans (Below.mono (show Keeps w6 _ from (by repeat (with_reducible (first | assumption | exact Keeps.refl _ | refine Keeps.alloc ?_ _ | refine Keeps.drew ?_ | refine Keeps.drewN ?_ _)))) hsw) hbel7) (Nat.le_refl _))
                  have HO7 := Lib.hid hown7
                  clear hown7 hbel7 hgr7 hfr7
                  go_roundw
                  case rel => exact ⟨en + 1, acc ++ [⟨q0, q1, q2⟩], f1, by go_num, by omega, by rw [List.length_append]; simp; omega, by omega, HO7, HK7, Lib.hid HRE.out.symm⟩
                  case measure => simp [RowKit.intOf]; omega
end Go.Proofs.YtjnhiiidcjajbaaGreatDoor
