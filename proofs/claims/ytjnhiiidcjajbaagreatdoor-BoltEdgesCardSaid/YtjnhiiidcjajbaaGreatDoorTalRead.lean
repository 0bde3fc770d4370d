/-
  tally.Read: the edges that a text tells, or what is wrong.
-/
import Derived.Test.YtjnhiiidcjajbaaGreatDoorTalNumber
import Derived.Test.YtjnhiiidcjajbaaGreatDoorTalLines
import Derived.Test.YtjnhiiidcjajbaaGreatDoorTypes
import Derived.Test.YtjnhiiidcjajbaaGreatDoorFlowCore
import Derived.Test.YtjnhiiidcjajbaaGreatDoorFoot
import Derived.Test.YtjnhiiidcjajbaaGreatDoorSortC
import Derived.OwnWalk
namespace Go.Proofs.YtjnhiiidcjajbaaGreatDoor
open Go.RowKit BH Go.Lib Go.Shelf Go.Sort
set_option maxHeartbeats 100000000
set_option maxRecDepth 100000
def strLen : Value → Nat
  | .string s => s.size
  | _ => 0
theorem ofList_list (l : List UInt8) : (⟨l.toArray⟩ : ByteArray).data.toList = l := rfl
theorem ofList_size (l : List UInt8) : (⟨l.toArray⟩ : ByteArray).size = l.length := rfl
theorem cut_any (s : ByteArray) (hs : s.size ≤ 4000) (w : World) (hw : TalW w) : Calls Tryz.prog 27 #[.string s, .string ⟨#[10]⟩] w fun e w' => e = .returned (.tuple #[.string ⟨(cut s.data.toList [10]).1.toArray⟩, .string ⟨(cut s.data.toList [10]).2.1.toArray⟩, .bool (cut s.data.toList [10]).2.2]) ∧ Keeps w w' := by
  obtain ⟨m, hm⟩ := hw.ml
  exact (Any.strings_Cut { Tryz.laysCut with } s ⟨#[10]⟩ m w (by omega) hm).mono fun e w' ⟨h1, n, h2⟩ => ⟨h1, by subst h2; exact (Keeps.refl _).drewN _⟩
theorem split_any (s : ByteArray) (hs : s.size ≤ 4000) (w : World) (hw : TalW w) : ∃ ps : List ByteArray, ps.map (·.data.toList) = spl 32 s.data.toList ∧
    Calls Tryz.prog 28 #[.string s, .string ⟨#[32]⟩] w fun e w' => e = .returned (.slice (some ⟨w.heap.size, 0, none⟩) ps.length ps.length) ∧ w' = w.alloc (.cells (ps.map Value.string).toArray 9) := by
  obtain ⟨m, hm⟩ := hw.ml
  have h := Any.strings_Split { Tryz.laysSplit with } Tryz.laysSplit.i9 s ⟨#[32]⟩ m w (by omega) hm (by decide)
  have hl := splitB_all (⟨#[32]⟩ : ByteArray) (by decide) 0 _ s rfl
  refine ⟨splitB ⟨#[32]⟩ 0 (countB s ⟨#[32]⟩) s, ?_, ?_⟩
  · rw [splitB_data]
    exact split_spl 32 s.data.toList
  · rw [hl]
    exact h
/-- the numbers of a line, as far as they are read -/
def nv (j k : Nat) (q : Int) : Value := if j < k then .int .i64 q else .int .i64 0
def cellsK (k : Nat) (q0 q1 q2 : Int) : Array Value := #[nv 0 k q0, nv 1 k q1, nv 2 k q2]
theorem cellsK_0 (q0 q1 q2 : Int) : (cellsK 0 q0 q1 q2).setIfInBounds 0 (.int .i64 q0) = cellsK 1 q0 q1 q2 := rfl
theorem cellsK_1 (q0 q1 q2 : Int) : (cellsK 1 q0 q1 q2).setIfInBounds 1 (.int .i64 q1) = cellsK 2 q0 q1 q2 := rfl
theorem cellsK_2 (q0 q1 q2 : Int) : (cellsK 2 q0 q1 q2).setIfInBounds 2 (.int .i64 q2) = cellsK 3 q0 q1 q2 := rfl
theorem read_any (s : ByteArray) (w : World) (hw : TalW w) : Calls Tryz.prog 12 #[.string s] w (GivesN (fun v w' => Edges w' v (tallyS s.data.toList).2) (tallyS s.data.toList).1 w) := by
  have hlen := size_list s
  by_cases hbig : 4000 < s.size
  · have hR : tallyS s.data.toList = (1, []) := by unfold tallyS; rw [if_pos (by omega)]
    rw [hR]
    have t0 : decide (4000 < (s.size : Int)) = true := decide_eq_true (by omega)
    clear hR hlen
    go_enter Tryz.func12, Tryz.ntmps12
    go_wp2_with fail
    refine bodyPost_ret (results_tmp2 rfl _ _ _) rfl ?_
    exact ⟨.slice none 0 0, rfl, edges_nil _, Keeps.refl _⟩
  · have t0 : decide (4000 < (s.size : Int)) = false := decide_eq_false (by omega)
    have hR : tallyS s.data.toList = readS (s.size + 1) [] s.data.toList := by unfold tallyS; rw [if_neg (by omega), hlen]
    obtain ⟨R, hRR⟩ : ∃ R, R = tallyS s.data.toList := ⟨_, rfl⟩
    rw [← hRR]
    have HR0 := Lib.hid (hR.symm.trans hRR.symm)
    have HW := Lib.hid hw
    clear hR hRR hlen hw
    go_enter Tryz.func12, Tryz.ntmps12
    go_wp2_with fail
    go_loopw [0, 4] (fun s0 s4 wr => ∃ (S : ByteArray) (acc : List Ed) (fu : Nat), s0 = .string S ∧ S.size + acc.length ≤ 4000 ∧ S.size < fu ∧ Hid (Own wr w.heap.size 43 3 ced s4 acc) ∧ Hid (Keeps w wr) ∧ Hid (readS fu acc S.data.toList = R)) (fun s0 _ _ => strLen s0)
    case atStart => exact ⟨s, [], s.size + 1, rfl, by simp; omega, by omega, Lib.hid (Own.nil _ _ _ _ _), Lib.hid (Keeps.refl _), HR0⟩
    case round =>
      obtain ⟨S, acc, fu, rfl, hsz, hfu, HO, HK, HRD⟩ := hrel
      obtain ⟨a4, c4, e4⟩ := own_form' HO.out
      obtain ⟨NA, hNA⟩ : ∃ NA, NA = acc.length := ⟨_, rfl⟩
      rw [← hNA] at e4
      subst e4
      obtain ⟨f1, rfl⟩ : ∃ f1, fu = f1 + 1 := ⟨fu - 1, by omega⟩
      have hSl := size_list S
      by_cases hS0 : S.size = 0
      · have tz : decide ((0 : Int) < (S.size : Int)) = false := decide_eq_false (by omega)
        have hr : R = (0, acc) := by
          rw [← HRD.out]
          unfold readS
          rw [if_pos (List.length_eq_zero_iff.1 (hSl.trans hS0))]
        have HRE := Lib.hid hr
        clear hr hSl
        go_wp2_with fail
        refine bodyPost_ret (results_tmp2 rfl _ _ _) rfl ?_
        exact ⟨_, by rw [HRE.out]; rfl, by rw [HRE.out]; exact own_ed HO.out, HK.out⟩
      · have tz : decide ((0 : Int) < (S.size : Int)) = true := decide_eq_true (by omega)
        obtain ⟨L, hL⟩ : ∃ L, L = S.data.toList := ⟨_, rfl⟩
        have hne : ¬ L = [] := fun e => hS0 (by rw [← hSl, ← hL, e]; rfl)
        have hCut := fun w' (hk : Keeps w w') => cut_any S (by omega) w' (HW.out.keep hk)
        rw [← hL] at hCut HRD hSl
        rw [cut_one] at hCut
        by_cases hc : toC 10 L < L.length
        case neg =>
          have hr : R = (5, []) := by
            rw [← HRD.out]
            unfold readS
            rw [if_neg hne, if_pos hc]
          have HRE := Lib.hid hr
          rw [if_neg hc] at hCut
          have HC := Lib.hid hCut
          clear hr hCut hSl hc hne hL
          go_wp2_with (go_at_call 27; refine (HC.out _ HK.out).mono ?_; rintro e w1 ⟨rfl, hk1⟩)
          refine bodyPost_ret (results_tmp2 rfl _ _ _) rfl ?_
          exact ⟨.slice none 0 0, by rw [HRE.out]; rfl, by rw [HRE.out]; exact edges_nil _, HK.out.trans hk1⟩
        case pos =>
        rw [if_pos hc] at hCut
        obtain ⟨A, hA⟩ : ∃ A : ByteArray, A = ⟨(L.take (toC 10 L)).toArray⟩ := ⟨_, rfl⟩
        obtain ⟨B, hB⟩ : ∃ B : ByteArray, B = ⟨(L.drop (toC 10 L + 1)).toArray⟩ := ⟨_, rfl⟩
        dsimp only at hCut
        rw [← hA, ← hB] at hCut
        have hAl : A.data.toList = L.take (toC 10 L) := by rw [hA]
        have hBl : B.data.toList = L.drop (toC 10 L + 1) := by rw [hB]
        have hAs : A.size ≤ 4000 := by rw [← size_list, hAl, List.length_take]; omega
        have hBs : B.size + 1 + acc.length ≤ 4000 ∧ B.size < f1 := by rw [← size_list, hBl, List.length_drop]; omega
        have hrd : R = if (spl 32 A.data.toList).length ≠ 3 ∨ countR (nth (spl 32 A.data.toList) 0) < 0 ∨ countR (nth (spl 32 A.data.toList) 1) < 0 ∨ countR (nth (spl 32 A.data.toList) 2) < 0 then (4, [])
            else readS f1 (acc ++ [⟨countR (nth (spl 32 A.data.toList) 0), countR (nth (spl 32 A.data.toList) 1), countR (nth (spl 32 A.data.toList) 2)⟩]) B.data.toList := by
          rw [← HRD.out, hAl, hBl]
          conv => lhs; unfold readS
          rw [if_neg hne, if_neg (fun q => q hc)]
        have HC := Lib.hid hCut
        have HRD2 := Lib.hid hrd
        have hBn : B.size < S.size := by rw [← size_list B, hBl, List.length_drop]; omega
        clear hCut hrd hAl hBl hA hB hSl hc hne hL hS0 HRD hNA
        go_upto_region 8 with (go_at_call 27; refine (HC.out _ HK.out).mono ?_; rintro e w1 ⟨rfl, hk1⟩)
        obtain ⟨ps, hps, hSp⟩ := split_any A hAs w1 (HW.out.keep (HK.out.trans hk1))
        have HK1 := Lib.hid (HK.out.trans hk1)
        have HO1 := Lib.hid (HO.out.keep hk1)
        have HPS := Lib.hid hps
        have HSP := Lib.hid hSp
        clear hps hSp hk1
        by_cases h3 : ps.length = 3
        case neg =>
          have t3 : ((ps.length : Int) != 3) = true := by simp; omega
          have hr : R = (4, []) := by
            rw [HRD2.out, if_pos (Or.inl (by rw [← HPS.out, List.length_map]; exact h3))]
          have HRE := Lib.hid hr
          clear hr h3
          go_wp2_with (go_at_call 28; refine HSP.out.mono ?_; rintro e w2 ⟨rfl, rfl⟩)
          refine bodyPost_ret (results_tmp2 rfl _ _ _) rfl ?_
          exact ⟨.slice none 0 0, by rw [HRE.out]; rfl, by rw [HRE.out]; exact edges_nil _, HK1.out.trans (by repeat (with_reducible (first | assumption | exact Keeps.refl _ | refine Keeps.alloc ?_ _ | refine Keeps.drew ?_ | refine Keeps.drewN ?_ _)))⟩
        case pos =>
        obtain ⟨p0, p1, p2, rfl⟩ : ∃ p0 p1 p2, ps = [p0, p1, p2] := by
          rcases ps with _ | ⟨p0, _ | ⟨p1, _ | ⟨p2, _ | ⟨p3, r⟩⟩⟩⟩
          · cases h3
          · cases h3
          · cases h3
          · exact ⟨p0, p1, p2, rfl⟩
          · simp at h3
        have hsp : spl 32 A.data.toList = [p0.data.toList, p1.data.toList, p2.data.toList] := HPS.out.symm
        have hmem : ∀ p : ByteArray, p.data.toList ∈ spl 32 A.data.toList → p.size ≤ 4000 := fun p hp => by
          have := spl_mem 32 _ _ hp
          rw [size_list, size_list] at this
          omega
        have hp0 : p0.size ≤ 4000 := hmem p0 (by rw [hsp]; simp)
        have hp1 : p1.size ≤ 4000 := hmem p1 (by rw [hsp]; simp)
        have hp2 : p2.size ≤ 4000 := hmem p2 (by rw [hsp]; simp)
        have hrd := HRD2.out
        rw [hsp] at hrd
        obtain ⟨q0, hq0⟩ : ∃ q, q = countR p0.data.toList := ⟨_, rfl⟩
        obtain ⟨q1, hq1⟩ : ∃ q, q = countR p1.data.toList := ⟨_, rfl⟩
        obtain ⟨q2, hq2⟩ : ∃ q, q = countR p2.data.toList := ⟨_, rfl⟩
        have hrd2 : R = if q0 < 0 ∨ q1 < 0 ∨ q2 < 0 then (4, []) else readS f1 (acc ++ [⟨q0, q1, q2⟩]) B.data.toList := by
          rw [hrd, hq0, hq1, hq2]
          show (if [p0.data.toList, p1.data.toList, p2.data.toList].length ≠ 3 ∨ countR p0.data.toList < 0 ∨ countR p1.data.toList < 0 ∨ countR p2.data.toList < 0 then _ else _) = _
          by_cases h : countR p0.data.toList < 0 ∨ countR p1.data.toList < 0 ∨ countR p2.data.toList < 0
          · rw [if_pos (Or.inr h), if_pos h]
          · rw [if_neg (fun z => by rcases z with z | z; exact z rfl; exact h z), if_neg h]
            rfl
        have HQ0 := Lib.hid hq0
        have HQ1 := Lib.hid hq1
        have HQ2 := Lib.hid hq2
        have HRD3 := Lib.hid hrd2
        have HSP3 : Hid (Calls Tryz.prog 28 #[.string A, .string ⟨#[32]⟩] w1 fun e w' => e = .returned (.slice (some ⟨w1.heap.size, 0, none⟩) 3 3) ∧ w' = w1.alloc (.cells #[.string p0, .string p1, .string p2] 9)) := HSP
        clear h3 hsp hmem hrd hq0 hq1 hq2 hrd2 HSP HRD2 HPS
        go_upto_block 2 with (go_at_call 28; refine HSP3.out.mono ?_; rintro e w2 ⟨rfl, rfl⟩)
        obtain ⟨wb, hwb, hBS, hBN, hkb⟩ : ∃ wb, wb = (w1.alloc (.cells #[.string p0, .string p1, .string p2] 9)).alloc (.cells #[.int .i64 0, .int .i64 0, .int .i64 0] 69) ∧ Blk wb w1.heap.size (.cells #[.string p0, .string p1, .string p2] 9) ∧ Blk wb (w1.heap.size + 1) (.cells #[.int .i64 0, .int .i64 0, .int .i64 0] 69) ∧ Keeps w1 wb :=
          ⟨_, rfl, (Blk.top _ _).keep ((Keeps.refl _).alloc _), Blk.top' _ _ (by rw [sz_alloc]), ((Keeps.refl _).alloc _).alloc _⟩
        rw [← hwb]
        obtain ⟨nb, hnb⟩ : ∃ nb, nb = w1.heap.size + 1 := ⟨_, rfl⟩
        obtain ⟨sb, hsb⟩ : ∃ sb, sb = w1.heap.size := ⟨_, rfl⟩
        rw [← hnb, ← hsb]
        rw [← hsb] at hBS
        rw [← hnb] at hBN
        have hwsb : w.heap.size ≤ sb := by have := HK1.out.size; omega
        have hsn : sb < nb := by omega
        have hol : ∀ b, (Value.slice a4 NA c4).ownBlock = some b → b < sb := fun b q => by have := own_lt' HO1.out q; omega
        have HBS := Lib.hid hBS
        have HBN : Hid (Blk wb nb (.cells (cellsK 0 q0 q1 q2) 69)) := Lib.hid hBN
        have HKB := Lib.hid (HK1.out.trans hkb)
        have HOB := Lib.hid (HO1.out.keep hkb)
        have HOLT := Lib.hid hol
        clear hwb hsb hnb hBS hBN hkb hol HO1 HO HSP3
        go_wp2_with fail
        go_loopw [33] (fun s33 wr => ∃ k : Nat, k ≤ 3 ∧ s33 = .int .i64 k ∧ Hid (Blk wr nb (.cells (cellsK k q0 q1 q2) 69)) ∧ Hid (Blk wr sb (.cells #[.string p0, .string p1, .string p2] 9)) ∧ Hid (Own wr w.heap.size 43 3 ced (.slice a4 NA c4) acc) ∧ Hid (Keeps w wr) ∧ Hid ((0 < k → 0 ≤ q0) ∧ (1 < k → 0 ≤ q1) ∧ (2 < k → 0 ≤ q2))) (fun s33 _ => 3 - (RowKit.intOf s33).toNat)
        case atStart => exact ⟨0, by omega, rfl, HBN, HBS, HOB, HKB, Lib.hid ⟨by omega, by omega, by omega⟩⟩
        case round =>
          obtain ⟨k, hk, rfl, HN, HS, HOR, HKR, HG⟩ := hrel
          have hnl := HN.out.lt
          by_cases hlt : k < 3
          · have hltz : (k : Int) < 3 := by omega
            have hpk : ∃ pk qk, wr.cell? ⟨sb, k, none⟩ = some (.string pk) ∧ pk.size ≤ 4000 ∧ qk = countR pk.data.toList ∧ (cellsK k q0 q1 q2).setIfInBounds k (.int .i64 qk) = cellsK (k + 1) q0 q1 q2 ∧ (qk < 0 → R = (4, [])) ∧ (0 ≤ qk → (0 < k + 1 → 0 ≤ q0) ∧ (1 < k + 1 → 0 ≤ q1) ∧ (2 < k + 1 → 0 ≤ q2)) := by
              obtain ⟨g0, g1, g2⟩ := HG.out
              obtain rfl | rfl | rfl : k = 0 ∨ k = 1 ∨ k = 2 := by omega
              · exact ⟨p0, q0, HS.out.cell (j := 0) rfl, hp0, HQ0.out, cellsK_0 _ _ _, fun h => by rw [HRD3.out, if_pos (Or.inl h)], fun h => ⟨fun _ => h, by omega, by omega⟩⟩
              · exact ⟨p1, q1, HS.out.cell (j := 1) rfl, hp1, HQ1.out, cellsK_1 _ _ _, fun h => by rw [HRD3.out, if_pos (Or.inr (Or.inl h))], fun h => ⟨fun _ => g0 (by omega), fun _ => h, by omega⟩⟩
              · exact ⟨p2, q2, HS.out.cell (j := 2) rfl, hp2, HQ2.out, cellsK_2 _ _ _, fun h => by rw [HRD3.out, if_pos (Or.inr (Or.inr h))], fun h => ⟨fun _ => g0 (by omega), fun _ => g1 (by omega), fun _ => h⟩⟩
            obtain ⟨pk, qk, ck, hpks, hqk, hset, hneg, hpos⟩ := hpk
            have hNUM := number_any pk hpks wr (HW.out.keep HKR.out)
            unfold NumE at hNUM
            rw [← hqk] at hNUM
            have HSET := Lib.hid hset
            have HKS := Lib.hid (show ∃ v, (cellsK k q0 q1 q2)[k]? = some v from ⟨_, Array.getElem?_eq_getElem (by show k < 3; exact hlt)⟩)
            obtain ⟨wk, hwk⟩ : ∃ wk : World, wk = wr := ⟨_, rfl⟩
            subst hwk
            by_cases hq : 0 ≤ qk
            · rw [decide_eq_true hq] at hNUM
              have HP := Lib.hid (hpos hq)
              have HNUM := Lib.hid hNUM
              have HQ := Lib.hid hq
              clear hNUM hpos hneg hqk hset hq
              go_wp2_with (go_at_call 29; refine HNUM.out.mono ?_; rintro e w3 ⟨n, rfl, hn, hk3⟩; have hb3 := HN.out.keep hk3; have fz3 := hb3.thawed k; obtain ⟨ov, hov⟩ := HKS.out; have cv3 := hb3.cell hov; have hl3 := hb3.lt; have hn2 := hn HQ.out; subst hn2; have HB3 := Lib.hid hb3; have HK3 := Lib.hid hk3; clear hb3 hk3 hov hn)
              go_roundw
              case rel =>
                refine ⟨k + 1, by omega, by go_num, Lib.hid ?_, Lib.hid ?_, Lib.hid ?_, Lib.hid ?_, HP⟩
                · rw [← HSET.out]; exact Blk.set HB3.out k _
                · exact (HS.out.keep HK3.out).grown (grown_setCell _ nb k _) (by intro e; injection e with e; omega)
                · exact Own.other (grown_setCell _ nb k _) (HOR.out.keep HK3.out) (fun b q e => by have := HOLT.out b q; injection e with e; omega)
                · exact Keeps.setCell (HKR.out.trans HK3.out) (by dsimp only; omega) _
              case measure => simp [RowKit.intOf]; omega
            · rw [decide_eq_false hq] at hNUM
              have HRE := Lib.hid (hneg (by omega))
              have HNUM := Lib.hid hNUM
              clear hNUM hpos hneg hqk hset hq
              go_wp2_with (go_at_call 29; refine HNUM.out.mono ?_; rintro e w3 ⟨n, rfl, -, hk3⟩; have hb3 := HN.out.keep hk3; have fz3 := hb3.thawed k; obtain ⟨ov, hov⟩ := HKS.out; have cv3 := hb3.cell hov; have hl3 := hb3.lt; have HK3 := Lib.hid hk3; clear hb3 hk3 hov)
              refine bodyPost_ret (results_tmp2 rfl _ _ _) rfl ?_
              exact ⟨.slice none 0 0, by rw [HRE.out]; rfl, by rw [HRE.out]; exact edges_nil _, Keeps.setCell (HKR.out.trans HK3.out) (by dsimp only; omega) _⟩
          · obtain rfl : k = 3 := by omega
            obtain ⟨g0, g1, g2⟩ := HG.out
            have hr : R = readS f1 (acc ++ [⟨q0, q1, q2⟩]) B.data.toList := by
              rw [HRD3.out, if_neg]
              rintro (q | q | q)
              · have := g0 (by omega); omega
              · have := g1 (by omega); omega
              · have := g2 (by omega); omega
            have x0 := HN.out.cell (j := 0) (u := .int .i64 q0) rfl
            have x1 := HN.out.cell (j := 1) (u := .int .i64 q1) rfl
            have x2 := HN.out.cell (j := 2) (u := .int .i64 q2) rfl
            have HRE := Lib.hid hr
            have hsw := HKR.out.size
            have hal : acc.length ≤ 4000 := by omega
            clear hr g0 g1 g2
            go_wp2_with (at_builtin; refine wpList_pushes (by rfl) (.tmp 48) (.tmp 56) 27 (by rfl) Tryz.underlying27 info_edge (by rfl) (by decide) (base := w.heap.size) (f := ced) (l := acc) (by rfl) (by exact HOR.out.keep (by repeat (with_reducible (first | assumption | exact Keeps.refl _ | refine Keeps.alloc ?_ _ | refine Keeps.drew ?_ | refine Keeps.drewN ?_ _)))) [⟨q0, q1, q2⟩] _ _ (by rfl) (by exact Blk.top' _ _ (by first | rfl | simp)) ced_len ced_one (by simp only [List.length_cons, List.length_nil]; omega) (by simp only [List.length_cons, List.length_nil]; unfold maxLen; omega) (by first | omega | (simp only [sz_alloc]; omega)) ?_; intro v7 w7 hown7 hbel7 hgr7 hfr7)
            have HK7 := Lib.hid (HKR.out.trans' (Below.trans (Below.mono (show Keeps wr _ from (by repeat (with_reducible (first | assumption | exact Keeps.refl _ | refine Keeps.alloc ?_ _ | refine Keeps.drew ?_ | refine Keeps.drewN ?_ _)))) hsw) hbel7) (Nat.le_refl _))
            have HO7 := Lib.hid hown7
            clear hown7 hbel7 hgr7 hfr7
            go_roundw
            case rel => exact ⟨B, acc ++ [⟨q0, q1, q2⟩], f1, rfl, by rw [List.length_append]; simp; omega, hBs.2, HO7, HK7, Lib.hid HRE.out.symm⟩
            case measure => exact hBn
end Go.Proofs.YtjnhiiidcjajbaaGreatDoor
