/-
  The document's NextsOf: the places to which a block may go on, each once, ascending.
-/
import Derived.Test.YtjnhiiidcjajbaaGreatDoorNexts
import Derived.Deep.QuietTactic
import Derived.BigQuiet
import Derived.Deep.DeepCutAuto
import Derived.Deep.CutBlock
import Derived.IntWalk
namespace Go.Proofs.YtjnhiiidcjajbaaGreatDoor
open Go.RowKit BH
set_option maxHeartbeats 4000000
set_option pp.deepTerms true
set_option pp.maxSteps 1000000
set_option maxRecDepth 100000

theorem nextsOf_bad (v : Value) (f : Fl) (n : Int) (w : World) (hv : FlowAt w v f) (hs : FlowSmall f) (hn : n < 0 ∨ (f.Blocks.length : Int) ≤ n) :
    Calls Tryz.prog 57 #[v, .int .i64 n] w fun e w' => e = .returned (.tuple #[.slice none 0 0, .int .i64 6]) ∧ Keeps w w' := by
  obtain ⟨v0, v1, v2, rfl, ⟨cv, av, lv, ⟨ao, cap, rfl, -⟩, -⟩, -, -⟩ := hv
  obtain ⟨s1, -, -⟩ := hs
  go_enter Tryz.func57, Tryz.ntmps57
  go_wp2_with (go_at_call 20; refine (in_no _ _ _ _ (by omega)).mono ?_; rintro e w' ⟨rfl, rfl⟩)
  go_ret2
  exact ⟨rfl, (Keeps.refl _).alloc _⟩

/-- the list from which the document chooses -/
def ListAt (w0 : World) (l : List Int) (v : Value) (w : World) : Prop := Ints w v l ∧ Keeps w0 w
def lenV : Value → Nat | .slice _ n _ => n | _ => 0
theorem ints_of_blk {w : World} {g : Nat} {e : TypeId} {l : List Int} {c : Array Value} (h : Blk w g (.cells c e (0, 0))) (hc : c = (l.map fun x => Value.int .i64 x).toArray) (hl : l.length ≤ maxLen) : Ints w (.slice (some ⟨g, 0, none⟩) l.length l.length) l := by
  subst hc
  refine ⟨some ⟨g, 0, none⟩, l.length, rfl, Nat.le_refl _, hl, (fun h => by cases h), fun hn => ⟨g, 0, rfl, fun i j hi hj => ?_⟩⟩
  obtain rfl : j = 0 := by omega
  rw [show 0 + i * 1 + 0 = i by omega]
  refine h.cell ?_
  simp [nth_eq l i hi, hi]
theorem ints_empty (w : World) : Ints w (.slice none 0 0) [] := ⟨none, 0, rfl, Nat.le_refl _, by unfold maxLen; omega, fun _ => rfl, fun h => absurd h (Nat.lt_irrefl _)⟩
theorem nextsOf_ok (v : Value) (f : Fl) (k : Nat) (w : World) (hv : FlowAt w v f) (hk : k < f.Blocks.length) (hs : FlowSmall f) :
    Calls Tryz.prog 57 #[v, .int .i64 k] w (GivesN (fun v' w' => Ints w' v' (uniq (nextsRaw f (nth f.Blocks k)))) 0 w) := by
  obtain ⟨l, hl⟩ : ∃ l, l = nextsRaw f (nth f.Blocks k) := ⟨_, rfl⟩
  rw [← hl]
  have HL := Lib.hid hl
  clear hl
  have hsmall : l.length ≤ 17592186044416 := by
    rw [HL.out]
    unfold nextsRaw tabOf
    repeat' split
    all_goals first
      | (simp; done)
      | (rename_i h; have := hs.2.2 _ (nth_mem (s := f.Tables) (j := (nth (nth f.Blocks k).Code ((nth f.Blocks k).Code.length - 1)).N.toNat) (by omega)); omega)
  obtain ⟨v0, v1, v2, rfl, ⟨cv, av, lv, ⟨ao, cap, rfl, b1, b2, -, b3⟩, bi⟩, ⟨tv, ⟨tao, tcap, rfl, t1, t2, -, t3⟩, ti⟩, hF⟩ := hv
  obtain ⟨s1, s2, s3⟩ := hs
  obtain ⟨b, off, rfl, hc⟩ := b3 (by omega)
  have c0 : w.cell? ⟨b, off + k * 14, none⟩ = some (.int .i64 (nth f.Blocks k).Func) := hc k 0 hk (by omega)
  have c1 : w.cell? ⟨b, off + k * 14 + 1, none⟩ = some (.int .i64 (nth f.Blocks k).Start) := hc k 1 hk (by omega)
  have c2 : w.cell? ⟨b, off + k * 14 + 2, none⟩ = some (cv k) := hc k 2 hk (by omega)
  have c3 : w.cell? ⟨b, off + k * 14 + 3, none⟩ = some (av k) := hc k 3 hk (by omega)
  have c4 : w.cell? ⟨b, off + k * 14 + 4, none⟩ = some (.int .i64 (nth f.Blocks k).Last.K) := hc k 4 hk (by omega)
  have c5 : w.cell? ⟨b, off + k * 14 + 5, none⟩ = some (.int .i64 (nth f.Blocks k).Last.D) := hc k 5 hk (by omega)
  have c6 : w.cell? ⟨b, off + k * 14 + 6, none⟩ = some (.int .i64 (nth f.Blocks k).Last.A) := hc k 6 hk (by omega)
  have c7 : w.cell? ⟨b, off + k * 14 + 7, none⟩ = some (.int .i64 (nth f.Blocks k).Last.B) := hc k 7 hk (by omega)
  have c8 : w.cell? ⟨b, off + k * 14 + 8, none⟩ = some (.int .i64 (nth f.Blocks k).Last.N) := hc k 8 hk (by omega)
  have c9 : w.cell? ⟨b, off + k * 14 + 9, none⟩ = some (.bool (nth f.Blocks k).Last.Lg) := hc k 9 hk (by omega)
  have c10 : w.cell? ⟨b, off + k * 14 + 10, none⟩ = some (.int .i64 (nth f.Blocks k).Ends) := hc k 10 hk (by omega)
  have c11 : w.cell? ⟨b, off + k * 14 + 11, none⟩ = some (.int .i64 (nth f.Blocks k).To) := hc k 11 hk (by omega)
  have c12 : w.cell? ⟨b, off + k * 14 + 12, none⟩ = some (.int .i64 (nth f.Blocks k).Else) := hc k 12 hk (by omega)
  have c13 : w.cell? ⟨b, off + k * 14 + 13, none⟩ = some (lv k) := hc k 13 hk (by omega)
  obtain ⟨hCode, hAt, hLn⟩ := bi k hk
  obtain ⟨co, ccap, hvc⟩ := Arr.form hCode
  obtain ⟨aao, acap, hva⟩ := Arr.form hAt
  obtain ⟨lao, lcap, hvl⟩ := Arr.form hLn
  rw [hvc] at c2 hCode
  rw [hva] at c3
  rw [hvl] at c13
  clear hvc hva hvl hAt hLn
  generalize nth f.Blocks k = B at *
  have HFA := Lib.hid (show B.At = B.At from rfl)
  generalize B.At.length = al at *
  generalize B.Lines.length = ll at *
  have hbw : b < w.heap.size := lt_of_cell c0
  obtain ⟨W, hW, hkW, hB1, hB2, hsz⟩ := two_made w (.cells #[.slice (some ⟨b, off, none⟩) f.Blocks.length cap, .slice tao f.Tables.length tcap, v2] 26) (.cells #[.int .i64 B.Func, .int .i64 B.Start, .slice co B.Code.length ccap, .slice aao al acap, .int .i64 B.Last.K, .int .i64 B.Last.D, .int .i64 B.Last.A, .int .i64 B.Last.B, .int .i64 B.Last.N, .bool B.Last.Lg, .int .i64 B.Ends, .int .i64 B.To, .int .i64 B.Else, .slice lao ll lcap] 64)
  have HW := Lib.hid hW
  have HS := Lib.hid hsz
  have hle : w.heap.size ≤ W.heap.size := by omega
  have hlt : w.heap.size + 1 < W.heap.size := by omega
  have hlt0 : w.heap.size < W.heap.size := by omega
  clear hW hsz b3 hc bi hF HFA
  unfold maxLen at b2 t2
  go_enter Tryz.func57, Tryz.ntmps57
  go_upto_region 5 with (go_at_call 20; refine (in_yes _ _ _ _ (by omega) (by omega)).mono ?_; rintro e w' ⟨rfl, rfl⟩)
  rw [← HW.out]
  clear c0 c1 c2 c3 c4 c5 c6 c7 c8 c9 c10 c11 c12 c13 HW
  have e1 := hB1.cell (j := 1) rfl
  have i2 := hB2.cell (j := 2) rfl
  have i10 := hB2.cell (j := 10) rfl
  have i11 := hB2.cell (j := 11) rfl
  have i12 := hB2.cell (j := 12) rfl
  clear hB1 hB2
  go_upto_block 0 with fail
  go_cut [7] (fun s7 wx => ListAt W l s7 wx)
  case first =>
    by_cases h2 : B.Ends = 2
    · have q1 : (B.Ends == 2) = true := by simpa using h2
      have H2 := Lib.hid h2
      clear h2
      go_wp2_with fail
      go_meet
      case rel =>
        have e : l = [B.To] := by rw [HL.out]; unfold nextsRaw; rw [if_pos (Or.inl H2.out)]
        rw [e]
        exact ⟨ints_of_blk (l := [B.To]) (Blk.top' _ _ (by first | rfl | simp)) rfl (by simp [maxLen]), (Keeps.refl W).alloc _⟩
    by_cases h3 : B.Ends = 3
    · have q1 : (B.Ends == 2) = false := by rw [h3]; rfl
      have q2 : (B.Ends == 3) = true := by simpa using h3
      have H3 := Lib.hid h3
      clear h3 h2
      go_wp2_with fail
      go_meet
      case rel =>
        have e : l = [B.To] := by rw [HL.out]; unfold nextsRaw; rw [if_pos (Or.inr H3.out)]
        rw [e]
        exact ⟨ints_of_blk (l := [B.To]) (Blk.top' _ _ (by first | rfl | simp)) rfl (by simp [maxLen]), (Keeps.refl W).alloc _⟩
    have q1 : (B.Ends == 2) = false := by simpa using h2
    have q2 : (B.Ends == 3) = false := by simpa using h3
    have H23 : Hid (¬ (B.Ends = 2 ∨ B.Ends = 3)) := Lib.hid (fun h => h.elim h2 h3)
    clear h2 h3
    by_cases h4 : B.Ends = 4
    · have q3 : (B.Ends == 4) = true := by simpa using h4
      have H4 := Lib.hid h4
      clear h4
      go_wp2_with fail
      go_meet
      case rel =>
        have e : l = [B.To, B.Else] := by rw [HL.out]; unfold nextsRaw; rw [if_neg H23.out, if_pos H4.out]
        rw [e]
        exact ⟨ints_of_blk (l := [B.To, B.Else]) (Blk.top' _ _ (by first | rfl | simp)) rfl (by simp [maxLen]), (Keeps.refl W).alloc _⟩
    have q3 : (B.Ends == 4) = false := by simpa using h4
    have H4 := Lib.hid h4
    clear h4
    by_cases hp : 0 < B.Code.length
    · obtain ⟨co', ccap', hvc, k1, k2, -, k3⟩ := hCode
      injection hvc with e1' e2' e3'
      subst e1'
      subst e3'
      clear e2'
      obtain ⟨cb, coff, rfl, kc⟩ := k3 hp
      have m0 : w.cell? ⟨cb, coff + (B.Code.length - 1) * 6, none⟩ = some (.int .i64 (nth B.Code (B.Code.length - 1)).K) := kc _ 0 (by omega) (by omega)
      have m1 : w.cell? ⟨cb, coff + (B.Code.length - 1) * 6 + 1, none⟩ = some (.int .i64 (nth B.Code (B.Code.length - 1)).D) := kc _ 1 (by omega) (by omega)
      have m2 : w.cell? ⟨cb, coff + (B.Code.length - 1) * 6 + 2, none⟩ = some (.int .i64 (nth B.Code (B.Code.length - 1)).A) := kc _ 2 (by omega) (by omega)
      have m3 : w.cell? ⟨cb, coff + (B.Code.length - 1) * 6 + 3, none⟩ = some (.int .i64 (nth B.Code (B.Code.length - 1)).B) := kc _ 3 (by omega) (by omega)
      have m4 : w.cell? ⟨cb, coff + (B.Code.length - 1) * 6 + 4, none⟩ = some (.int .i64 (nth B.Code (B.Code.length - 1)).N) := kc _ 4 (by omega) (by omega)
      have m5 : w.cell? ⟨cb, coff + (B.Code.length - 1) * 6 + 5, none⟩ = some (.bool (nth B.Code (B.Code.length - 1)).Lg) := kc _ 5 (by omega) (by omega)
      have HT : Hid (tabOf f B = if 0 < B.Code.length ∧ (nth B.Code (B.Code.length - 1)).K = 24 ∧ 0 ≤ (nth B.Code (B.Code.length - 1)).N ∧ (nth B.Code (B.Code.length - 1)).N < f.Tables.length then nth f.Tables (nth B.Code (B.Code.length - 1)).N.toNat else []) := Lib.hid rfl
      generalize (nth B.Code (B.Code.length - 1)) = I at *
      generalize B.Code.length = cl at *
      obtain ⟨cm, rfl⟩ : ∃ cm, cl = cm + 1 := ⟨cl - 1, by omega⟩
      simp only [Nat.add_sub_cancel] at m0 m1 m2 m3 m4 m5
      have m0 := hkW.cell m0
      have m1 := hkW.cell m1
      have m2 := hkW.cell m2
      have m3 := hkW.cell m3
      have m4 := hkW.cell m4
      have m5 := hkW.cell m5
      clear k3 kc
      unfold maxLen at k2
      by_cases hK : I.K = 24
      · have q5 : (I.K == 24) = true := by simpa using hK
        by_cases hN : I.N < 0 ∨ (f.Tables.length : Int) ≤ I.N
        · have HN := Lib.hid hN
          have HKK := Lib.hid hK
          clear hK
          go_wp2_with (go_at_call 20; refine (in_no _ _ _ _ (by omega)).mono ?_; rintro e w' ⟨rfl, rfl⟩)
          go_meet
          case rel =>
            have e : l = [] := by rw [HL.out]; unfold nextsRaw; rw [if_neg H23.out, if_neg H4.out, HT.out]; rw [if_neg (by rintro ⟨-, -, h1, h2⟩; have := HN.out; omega)]
            rw [e]
            exact ⟨ints_empty _, (by repeat (with_reducible (first | assumption | exact Keeps.refl _ | refine Keeps.alloc ?_ _ | refine Keeps.drew ?_ | refine Keeps.drewN ?_ _)))⟩
        · obtain ⟨i, hi⟩ : ∃ i : Nat, I.N = i := ⟨I.N.toNat, by omega⟩
          have hil : i < f.Tables.length := by omega
          have HTi := Lib.hid (ti i hil)
          obtain ⟨tb, toff, rfl, tc⟩ := t3 (by omega)
          have n0 : w.cell? ⟨tb, toff + i, none⟩ = some (tv i) := by simpa using tc i 0 hil (by omega)
          obtain ⟨eo, ecap, he⟩ := HTi.out.form
          rw [he] at n0 HTi
          have n0 := hkW.cell n0
          have htb : tb < W.heap.size := lt_of_cell n0
          have HE : Hid (l = nth f.Tables i) := Lib.hid (by rw [HL.out]; unfold nextsRaw; rw [if_neg H23.out, if_neg H4.out, HT.out]; rw [if_pos ⟨hp, hK, by omega, by omega⟩, hi, Int.toNat_natCast])
          rw [hi] at m4
          clear hK hi hN he tc ti t3
          have q6 : decide (i < f.Tables.length) = true := by simpa using hil
          go_wp2_with (go_at_call 20; refine (in_yes _ _ _ _ (by omega) (by omega)).mono ?_; rintro e w' ⟨rfl, rfl⟩)
          go_meet
          case rel =>
            rw [HE.out]
            exact ⟨Arr.keep HTi.out (hkW.trans (by repeat (with_reducible (first | assumption | exact Keeps.refl _ | refine Keeps.alloc ?_ _ | refine Keeps.drew ?_ | refine Keeps.drewN ?_ _)))), (by repeat (with_reducible (first | assumption | exact Keeps.refl _ | refine Keeps.alloc ?_ _ | refine Keeps.drew ?_ | refine Keeps.drewN ?_ _)))⟩
      · have q5 : (I.K == 24) = false := by simpa using hK
        have HKK := Lib.hid hK
        clear hK
        go_wp2_with fail
        go_meet
        case rel =>
          have e : l = [] := by rw [HL.out]; unfold nextsRaw; rw [if_neg H23.out, if_neg H4.out, HT.out]; rw [if_neg (by rintro ⟨-, h1, -⟩; exact HKK.out h1)]
          rw [e]
          exact ⟨ints_empty _, (by repeat (with_reducible (first | assumption | exact Keeps.refl _ | refine Keeps.alloc ?_ _ | refine Keeps.drew ?_ | refine Keeps.drewN ?_ _)))⟩
    · have hz : B.Code.length = 0 := by omega
      have HP := Lib.hid hp
      rw [hz] at i2
      have HZ := Lib.hid hz
      clear hz hp hCode
      try rw [HZ.out]
      go_wp2_with fail
      go_meet
      case rel =>
        have e : l = [] := by rw [HL.out]; unfold nextsRaw; rw [if_neg H23.out, if_neg H4.out]; unfold tabOf; rw [if_neg (by rintro ⟨h1, -⟩; exact HP.out h1)]
        rw [e]
        exact ⟨ints_empty _, (by repeat (with_reducible (first | assumption | exact Keeps.refl _ | refine Keeps.alloc ?_ _ | refine Keeps.drew ?_ | refine Keeps.drewN ?_ _)))⟩
  case rest =>
    obtain ⟨hIl, hkl⟩ := hcut
    have HI := Lib.hid hIl
    obtain ⟨la, lcp, rfl, l1, l2, -, l3⟩ := hIl
    have hS := uniq_is l
    have hSl := hS.length
    obtain ⟨S, hSe⟩ : ∃ S, uniq l = S := ⟨_, rfl⟩
    rw [hSe] at hS hSl
    have HSE := Lib.hid hSe
    have HS1 := Lib.hid hS
    clear hSe
    have HKW := Lib.hid (hkW.trans hkl)
    clear hS e1 i2 i10 i11 i12 hCode t3 ti hkW hkl HL HS
    unfold maxLen at l2
    go_wp2_with fail
    go_loopw [9] (fun s9 wr => ∃ r : Nat, r ≤ S.length ∧ Keeps wc wr ∧ Own wr wc.heap.size 3 1 ci s9 (S.take r)) (fun s9 _ => l.length - lenV s9)
    case atStart => exact ⟨0, Nat.zero_le _, Keeps.refl _, Own.nil _ _ _ _ _⟩
    case round =>
      obtain ⟨r, hr, hkr, hO⟩ := hrel
      have hlen : (S.take r).length = r := by simp; omega
      have HO := Lib.hid hO
      obtain ⟨oa, oc, rfl, o1, o2, -, o3⟩ := hO.ints
      rw [hlen] at o1 o3 ⊢
      have HLEN := Lib.hid hlen
      clear hO hlen
      obtain ⟨wo, rfl⟩ : ∃ wo : World, wo = wr := ⟨_, rfl⟩
      unfold maxLen at o2
      by_cases hlt : r < l.length
      · go_wp2_with fail
        go_loopw [10, 11] (fun s10 s11 wi => ∃ k : Nat, k ≤ l.length ∧ s11 = .int .i64 k ∧ s10 = .int .i64 (sel (lastOf S r) l k) ∧ Keeps wo wi) (fun _ s11 _ => l.length - (intOf s11).toNat)
        case atStart => exact ⟨0, Nat.zero_le _, rfl, rfl, Keeps.refl _⟩
        case round =>
          obtain ⟨k, hk, rfl, rfl, hki⟩ := hrel
          by_cases hlk : k < l.length
          · obtain ⟨lb, lof, rfl, lc⟩ := l3 (by omega)
            have x0 : wr.cell? ⟨lb, lof + k, none⟩ = some (.int .i64 (nth l k)) := (hkr.trans hki).cell (by simpa using lc k 0 hlk (by omega))
            have HSEL := Lib.hid (show sel (lastOf S r) l (k + 1) = if gtLo (lastOf S r) (nth l k) && (decide (sel (lastOf S r) l k < 0) || decide (nth l k < nth l (sel (lastOf S r) l k).toNat)) then (k : Int) else sel (lastOf S r) l k from rfl)
            have hsel := sel_is (lastOf S r) l k
            have hcases : (gtLo (lastOf S r) (nth l k) = false) ∨ (gtLo (lastOf S r) (nth l k) = true ∧ sel (lastOf S r) l k < 0) ∨ (gtLo (lastOf S r) (nth l k) = true ∧ ∃ b : Nat, sel (lastOf S r) l k = b ∧ b < k) := by
              cases hg : gtLo (lastOf S r) (nth l k) with
              | false => exact Or.inl rfl
              | true =>
                rcases hsel with ⟨h1, -⟩ | ⟨b, h1, h2, -⟩
                · exact Or.inr (Or.inl ⟨rfl, by omega⟩)
                · exact Or.inr (Or.inr ⟨rfl, b, h1, h2⟩)
            clear hsel
            rcases Nat.eq_zero_or_pos r with hr0 | hr0
            · have d0 : ((r : Int) == 0) = true := by simpa using hr0
              have hg : gtLo (lastOf S r) (nth l k) = true := by unfold lastOf; rw [if_pos hr0]; rfl
              rcases hcases with h | ⟨-, h⟩ | ⟨-, bb, h, hbk⟩
              · rw [hg] at h; cases h
              · have d1 : decide (sel (lastOf S r) l k < 0) = true := by simpa using h
                have HE : Hid (sel (lastOf S r) l (k + 1) = k) := Lib.hid (by rw [HSEL.out, hg, d1]; rfl)
                clear HSEL hg h
                generalize sel (lastOf S r) l k = s at *
                go_wp2_with fail
                go_quiet (fail)
                go_wp2
                go_roundw
                case rel => exact ⟨k + 1, by omega, by go_num, by rw [HE.out], hki.drewN _⟩
                case measure => simp [intOf]; omega
              · have z0 : wr.cell? ⟨lb, lof + bb, none⟩ = some (.int .i64 (nth l bb)) := (hkr.trans hki).cell (by simpa using lc bb 0 (by omega) (by omega))
                have d1 : decide ((bb : Int) < 0) = false := by simp
                rw [h] at HSEL ⊢
                rw [Int.toNat_natCast, d1, hg] at HSEL
                by_cases hc2 : nth l k < nth l bb
                · have d2 : decide (nth l k < nth l bb) = true := by simpa using hc2
                  have HE : Hid (sel (lastOf S r) l (k + 1) = k) := Lib.hid (by rw [HSEL.out, d2]; rfl)
                  clear HSEL hg h hc2
                  generalize nth l k = xk at *
                  generalize nth l bb = xb at *
                  go_wp2_with fail
                  go_quiet (fail)
                  go_wp2
                  go_roundw
                  case rel => exact ⟨k + 1, by omega, by go_num, by rw [HE.out], hki.drewN _⟩
                  case measure => simp [intOf]; omega
                · have d2 : decide (nth l k < nth l bb) = false := by simpa using hc2
                  have HE : Hid (sel (lastOf S r) l (k + 1) = bb) := Lib.hid (by rw [HSEL.out, d2]; rfl)
                  clear HSEL hg h hc2
                  generalize nth l k = xk at *
                  generalize nth l bb = xb at *
                  go_wp2_with fail
                  go_quiet (fail)
                  go_wp2
                  go_roundw
                  case rel => exact ⟨k + 1, by omega, by go_num, by rw [HE.out], hki.drewN _⟩
                  case measure => simp [intOf]; omega
            · have d0 : ((r : Int) == 0) = false := by rw [beq_eq_false_iff_ne]; omega
              obtain ⟨ob, oof, rfl, ocl⟩ := o3 hr0
              have y0 : wr.cell? ⟨ob, oof + (r - 1), none⟩ = some (.int .i64 (nth S (r - 1))) := hki.cell (by
                have := ocl (r - 1) 0 (by omega) (by omega)
                simp only [Nat.mul_one, Nat.add_zero] at this
                rw [this]
                simp only [nth, List.getD_eq_getElem?_getD, List.getElem?_take]
                rw [if_pos (by omega)])
              have hgl : gtLo (lastOf S r) (nth l k) = decide (nth S (r - 1) < nth l k) := by unfold lastOf; rw [if_neg (by omega)]; rfl
              obtain ⟨rm, rfl⟩ : ∃ rm, r = rm + 1 := ⟨r - 1, by omega⟩
              simp only [Nat.add_sub_cancel] at y0 hgl
              have d0' : ((rm : Int) + 1 == 0) = false := by rw [beq_eq_false_iff_ne]; omega
              clear d0
              have wr1 : IntKind.i64.wrap ((rm : Int) + 1 - 1) = rm := by rw [show (rm : Int) + 1 - 1 = rm by omega]; exact IntWalk.i64_in _ (by omega)
              have wr2 : IntKind.i64.wrap (rm : Int) = rm := IntWalk.i64_in _ (by omega)
              rcases hcases with h | ⟨hg, h⟩ | ⟨hg, bb, h, hbk⟩
              · have d3 := hgl.symm.trans h
                have HE : Hid (sel (lastOf S (rm + 1)) l (k + 1) = sel (lastOf S (rm + 1)) l k) := Lib.hid (by rw [HSEL.out, h]; rfl)
                clear HSEL hgl h
                generalize hs0 : sel (lastOf S (rm + 1)) l k = s at *
                have HS0 := Lib.hid hs0
                clear hs0
                go_wp2_with fail
                go_quiet (fail)
                go_wp2
                go_roundw
                case rel => exact ⟨k + 1, by omega, by go_num, by rw [HE.out], hki.drewN _⟩
                case measure => simp [intOf]; omega
              · have d3 := hgl.symm.trans hg
                have d1 : decide (sel (lastOf S (rm + 1)) l k < 0) = true := by simpa using h
                have HE : Hid (sel (lastOf S (rm + 1)) l (k + 1) = k) := Lib.hid (by rw [HSEL.out, hg, d1]; rfl)
                clear HSEL hg h
                generalize sel (lastOf S (rm + 1)) l k = s at *
                go_wp2_with fail
                go_quiet (fail)
                go_wp2
                go_roundw
                case rel => exact ⟨k + 1, by omega, by go_num, by rw [HE.out], hki.drewN _⟩
                case measure => simp [intOf]; omega
              · have d3 := hgl.symm.trans hg
                have z0 : wr.cell? ⟨lb, lof + bb, none⟩ = some (.int .i64 (nth l bb)) := (hkr.trans hki).cell (by simpa using lc bb 0 (by omega) (by omega))
                have d1 : decide ((bb : Int) < 0) = false := by simp
                rw [h] at HSEL ⊢
                rw [Int.toNat_natCast, d1, hg] at HSEL
                by_cases hc2 : nth l k < nth l bb
                · have d2 : decide (nth l k < nth l bb) = true := by simpa using hc2
                  have HE : Hid (sel (lastOf S (rm + 1)) l (k + 1) = k) := Lib.hid (by rw [HSEL.out, d2]; rfl)
                  clear HSEL hg h hc2
                  generalize nth l k = xk at *
                  generalize nth l bb = xb at *
                  go_wp2_with fail
                  go_quiet (fail)
                  go_wp2
                  go_roundw
                  case rel => exact ⟨k + 1, by omega, by go_num, by rw [HE.out], hki.drewN _⟩
                  case measure => simp [intOf]; omega
                · have d2 : decide (nth l k < nth l bb) = false := by simpa using hc2
                  have HE : Hid (sel (lastOf S (rm + 1)) l (k + 1) = bb) := Lib.hid (by rw [HSEL.out, d2]; rfl)
                  clear HSEL hg h hc2
                  generalize nth l k = xk at *
                  generalize nth l bb = xb at *
                  go_wp2_with fail
                  go_quiet (fail)
                  go_wp2
                  go_roundw
                  case rel => exact ⟨k + 1, by omega, by go_num, by rw [HE.out], hki.drewN _⟩
                  case measure => simp [intOf]; omega
          · obtain rfl : k = l.length := by omega
            have hki2 := hkr.trans hki
            by_cases hneg : sel (lastOf S r) l l.length < 0
            · have hrS := sel_none HS1.out hr hneg
              have d1 : decide (sel (lastOf S r) l l.length < 0) = true := by simpa using hneg
              have HR := Lib.hid hrS
              clear hneg hrS
              generalize sel (lastOf S r) l l.length = s at *
              go_wp2_with fail
              go_ret2
              refine ⟨_, rfl, ?_, HKW.out.trans hki2⟩
              have hI := (HO.out.keep hki).ints
              rw [HLEN.out] at hI
              rw [show S.take r = S by rw [HR.out]; exact List.take_length, ← HSE.out] at hI
              exact hI
            · obtain ⟨bb, hbb, hbl, hrS, hnx⟩ := sel_next HS1.out hr hneg
              have d1 : decide ((bb : Int) < 0) = false := by simp
              obtain ⟨lb, lof, rfl, lc⟩ := l3 (by omega)
              have z0 : wr.cell? ⟨lb, lof + bb, none⟩ = some (.int .i64 (nth l bb)) := hki2.cell (by simpa using lc bb 0 hbl (by omega))
              rw [hbb]
              have hO2 := HO.out.keep hki
              rw [HLEN.out] at hO2
              have HO2 := Lib.hid hO2
              clear hO2
              have HNX := Lib.hid hnx
              have hsz2 := hki2.size
              clear hbb hneg hnx lc
              generalize nth l bb = xb at *
              go_wp2_with (at_builtin; refine wpList_pushes (by rfl) (.tmp 114) (.tmp 119) 24 (by rfl) Tryz.underlying24 info_int (by rfl) (by decide) (base := wc.heap.size) (l := S.take r) (by rfl) (by exact HO2.out.keep ((Keeps.refl _).alloc _)) [xb] _ _ (by rfl) (by exact Blk.top' _ _ (by first | rfl | simp)) ci_len ci_one (by rw [HLEN.out]; simp; omega) (by rw [HLEN.out]; simp [maxLen]; omega) (by simp only [sz_alloc]; omega) ?_; intro v' w' hown hbelA hgr hfr)
              have hown' : Own w' wc.heap.size 3 1 ci v' (S.take (r + 1)) := by
                rw [take_succ_nth S r hrS, ← HNX.out]; exact hown
              have hkn : Keeps wc w' := Keeps.trans' (hki2.alloc _) hbelA (Nat.le_refl _)
              obtain ⟨oa', oc', hv', -⟩ := hown'.ints
              have hl' : (S.take (r + 1)).length = r + 1 := by simp; omega
              rw [hl'] at hv'
              subst hv'
              clear hown hbelA hgr hfr hl'
              have HOW := Lib.hid hown'
              clear hown'
              go_wp2_with fail
              first
                | (go_roundw
                   case rel => exact ⟨r + 1, by omega, hkn, HOW.out⟩
                   case measure => simp [lenV]; omega)
                | (exact ⟨⟨r + 1, by omega, hkn, HOW.out⟩, by simp [lenV]; omega⟩)
      · have hrS : r = S.length := by omega
        have HR := Lib.hid hrS
        clear hrS
        go_wp2_with fail
        go_ret2
        refine ⟨_, rfl, ?_, HKW.out.trans hkr⟩
        have hI := HO.out.ints
        rw [HLEN.out] at hI
        rw [show S.take r = S by rw [HR.out]; exact List.take_length, ← HSE.out] at hI
        exact hI
end Go.Proofs.YtjnhiiidcjajbaaGreatDoor
