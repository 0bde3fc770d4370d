/-
  tally.Map: the edges of a tally, between the blocks of a flow.
-/
import Derived.Test.YtjnhiiidcjajbaaGreatDoorTalMapS
import Derived.Test.YtjnhiiidcjajbaaGreatDoorMapInst
import Derived.Test.YtjnhiiidcjajbaaGreatDoorSortK
import Derived.Test.YtjnhiiidcjajbaaGreatDoorTalMapQ
import Derived.Test.YtjnhiiidcjajbaaGreatDoorSortC
import Derived.Test.YtjnhiiidcjajbaaGreatDoorFoot
import Derived.Test.YtjnhiiidcjajbaaGreatDoorOrdSt
import Derived.Test.YtjnhiiidcjajbaaGreatDoorRegTail
import Derived.DeepKeys5
import Derived.OwnWalk
import Derived.Carry
import Derived.Maps.RangeWalk
import Derived.Deep.CutBlock
import Derived.Deep.QuietTactic
import Derived.BigQuiet
import Derived.Deep.RegionLaw
import Derived.Deep.RegionHeld3
import Derived.Deep.DeepCutAuto
namespace Go.Proofs.YtjnhiiidcjajbaaGreatDoor
open Go.RowKit BH
set_option maxHeartbeats 1000000000
set_option maxRecDepth 100000
/-- what is wrong with edges -/
def mapE (l : List Ed) : Int := if 4000 < l.length then 1 else if anyN (fun i => badC (nth l i)) l.length = true then 2 else 0
/-- the edges that tally.Map answers -/
def mapS (f : Fl) (l : List Ed) : List Ed := if mapE l = 0 then l.foldl (stepD f (nx f)) [] else []
def sumM (f : Fl) (l : List Ed) : SumM := l.foldl (stepM f (nx f)) (fun _ => none)
theorem laid9 : laidOutB Tryz.prog = true := by kernel_rfl
theorem zeroI (w : World) : (zeroValue 3).run Tryz.prog w = .ok (.int .i64 0) w := by kernel_rfl
theorem MKI : MK Tryz.prog 74 3 3 (fun x : Int => .int .i64 x) wfI (fun c : Int => .int .i64 c) litI wfI 0 :=
  mk_ii Tryz.underlying74 Tryz.underlying3 Tryz.underlying3 zeroI
theorem MKP : MK Tryz.prog 75 80 3 encP wfP (fun c : Int => .int .i64 c) litI wfI 0 :=
  mk_pi (s := Tryz.prog.types.size - 1) (Maps.Keyed.of_law (deep_law_gate laid9 (of_decide_eq_true (by kernel_rfl)) (of_decide_eq_true (by kernel_rfl)) (by kernel_rfl) (by kernel_rfl))) Tryz.underlying75 Tryz.underlying80 Tryz.underlying3 (by kernel_rfl) (by kernel_rfl) (by kernel_rfl) (by kernel_rfl) Tryz.underlying3 zeroI
abbrev MI (w : World) (b n : Nat) (m : Int → Option Int) : Prop := MapF Tryz.prog 3 3 (fun x : Int => .int .i64 x) wfI litI w b n m
abbrev MP (w : World) (b n : Nat) (m : SumM) : Prop := MapF Tryz.prog 80 3 encP wfP litI w b n m
theorem map_only {k e : TypeId} {κ ν : Type} {enc : κ → Value} {wf : κ → Prop} {lit : ν → DataW Unit} {w w' : World} {S : Nat → Prop} {b n : Nat} {m : κ → Option ν} (h : MapF Tryz.prog k e enc wf lit w b n m) (ho : Only S w w') (hn : ¬ S b) : MapF Tryz.prog k e enc wf lit w' b n m := by
  have hlt := h.lt
  obtain ⟨D, ⟨es, clock, hb, F, hs, hD⟩, h2⟩ := h
  exact ⟨D, ⟨es, clock, (ho.block b hlt hn).trans hb, F, hs, hD⟩, h2⟩
theorem alike_all (f : Fl) (l : List Ed) (hc : ∀ i, i < l.length → badC (nth l i) = false) : ∀ k, k ≤ l.length → Alike (sumM f (l.take k)) ((l.take k).foldl (stepD f (nx f)) [])
  | 0, _ => by rw [List.take_zero]; exact Alike.nil
  | k + 1, hk => by
    have ih := alike_all f l hc k (by omega)
    unfold sumM at ih ⊢
    rw [take_succ_nth _ _ (by omega), List.foldl_append, List.foldl_append]
    have hb := hc k (by omega)
    unfold badC at hb
    simp only [decide_eq_false_iff_not] at hb
    exact ih.step (by omega) (by omega)
theorem sum_succ (f : Fl) (l : List Ed) {k : Nat} (hk : k < l.length) : sumM f (l.take (k + 1)) = stepM f (nx f) (sumM f (l.take k)) (nth l k) := by
  unfold sumM
  rw [take_succ_nth _ _ hk, List.foldl_append]
  rfl
theorem own_base' {α : Type} {w : World} {base : Nat} {e : TypeId} {k : Nat} {f : α → List Value} {v : Value} {l : List α} (h : Own w base e k f v l) {b : Nat} (hb : v.ownBlock = some b) : base ≤ b := by
  rcases h.2 with ⟨rfl, h0⟩ | ⟨g', cap', cur, rfl, hbg, _⟩
  · cases hb
  · have e : g' = b := Option.some.inj hb; omega
theorem nodup_len {α : Type} [DecidableEq α] : ∀ {K L : List α}, K.Nodup → (∀ p, p ∈ K → p ∈ L) → K.length ≤ L.length
  | [], _, _, _ => Nat.zero_le _
  | x :: r, L, hn, hs => by
    obtain ⟨h1, h2⟩ := List.nodup_cons.1 hn
    have hx := hs x (List.mem_cons_self ..)
    have h3 := nodup_len (L := L.erase x) h2 (fun p hp => (List.mem_erase_of_ne (fun e => h1 (by rw [← e]; exact hp))).2 (hs p (List.mem_cons_of_mem _ hp)))
    rw [List.length_erase_of_mem hx] at h3
    have : 0 < L.length := List.length_pos_of_mem hx
    simp only [List.length_cons]
    omega
theorem sum_key (f : Fl) : ∀ (l : List Ed) (m : SumM) {p : Int × Int} {n : Int}, l.foldl (stepM f (nx f)) m p = some n → (∃ e ∈ l, goes f (nx f) e ∧ placeE f e = p) ∨ ∃ n', m p = some n'
  | [], m, p, n, h => Or.inr ⟨n, h⟩
  | e :: r, m, p, n, h => by
    rw [List.foldl_cons] at h
    rcases sum_key f r _ h with ⟨e', he, hg, hp⟩ | ⟨n', hn⟩
    · exact Or.inl ⟨e', List.mem_cons_of_mem _ he, hg, hp⟩
    · unfold stepM at hn
      split at hn
      · rename_i hg
        unfold putS at hn
        split at hn
        · rename_i hp
          exact Or.inl ⟨e, List.mem_cons_self .., hg, hp.symm⟩
        · exact Or.inr ⟨n', hn⟩
      · exact Or.inr ⟨n', hn⟩
theorem keys_skip {SM : SumM} {K : List (Int × Int)} {left : Int × Int → Bool} {x : Int × Int} {c : Int} (h : K.Nodup ∧ ∀ p, p ∈ K ↔ wfP p ∧ left p = false ∧ ∃ n, SM p = some n ∧ 0 < n) (hx : SM x = some c) (hc : ¬ 0 < c) :
    K.Nodup ∧ ∀ p, p ∈ K ↔ wfP p ∧ (left p && !decide (p = x)) = false ∧ ∃ n, SM p = some n ∧ 0 < n := by
  refine ⟨h.1, fun p => (h.2 p).trans ⟨fun ⟨a, b, d⟩ => ⟨a, by rw [b]; rfl, d⟩, fun ⟨a, b, d⟩ => ⟨a, ?_, d⟩⟩⟩
  by_cases q : p = x
  · obtain ⟨n, h1, h2⟩ := d
    rw [q, hx] at h1
    cases h1
    exact absurd h2 hc
  · rw [decide_eq_false q] at b
    simpa using b
theorem keys_add {SM : SumM} {K : List (Int × Int)} {left : Int × Int → Bool} {x : Int × Int} {c : Int} (h : K.Nodup ∧ ∀ p, p ∈ K ↔ wfP p ∧ left p = false ∧ ∃ n, SM p = some n ∧ 0 < n) (hx : SM x = some c) (hc : 0 < c) (hw : wfP x) (hl : left x = true) :
    (K ++ [x]).Nodup ∧ ∀ p, p ∈ K ++ [x] ↔ wfP p ∧ (left p && !decide (p = x)) = false ∧ ∃ n, SM p = some n ∧ 0 < n := by
  refine ⟨List.nodup_append.2 ⟨h.1, by simp, fun a ha b hb e => ?_⟩, fun p => ?_⟩
  · rw [List.mem_singleton] at hb
    have := ((h.2 a).1 ha).2.1
    rw [e, hb, hl] at this
    cases this
  · rw [List.mem_append, List.mem_singleton, h.2 p]
    constructor
    · rintro (⟨a, b, d⟩ | rfl)
      · exact ⟨a, by rw [b]; rfl, d⟩
      · exact ⟨hw, by simp, c, hx, hc⟩
    · rintro ⟨a, b, d⟩
      by_cases q : p = x
      · exact Or.inr q
      · rw [decide_eq_false q] at b
        exact Or.inl ⟨a, by simpa using b, d⟩
theorem map_any {f : Fl} {l : List Ed} {vf vl : Value} {w : World} (hf : FlowAt w vf f) (hl : Edges w vl l) (hs : FlowSmall f) (hwb : ∀ i, i < f.Blocks.length → wfI (nth f.Blocks i).Start ∧ ∀ j, j < (nth f.Blocks i).At.length → wfI (nth (nth f.Blocks i).At j)) (hwe : ∀ i, i < l.length → wfI (nth l i).From ∧ wfI (nth l i).To) :
    Calls Tryz.prog 13 #[vf, vl] w (GivesN (fun v w' => Edges w' v (mapS f l)) (mapE l) w) := by
  have hmm := @run_makeMap Tryz.prog
  have HFL := Lib.hid hf
  have HL := Lib.hid hl
  have HSM := Lib.hid hs
  have HWB := Lib.hid hwb
  have HWE := Lib.hid hwe
  obtain ⟨v0, v1, v2, rfl, ⟨cv, av, lv, ⟨ao, cap, rfl, b1, b2, -, b3⟩, bi⟩, ⟨tv, ⟨tao, tcap, rfl, -⟩, -⟩, hF⟩ := hf
  obtain ⟨fao, fcap, rfl, -⟩ := hF
  obtain ⟨lao, lcap, rfl, l1, l2, -, l3⟩ := hl
  have hnB := hs.1
  unfold maxLen at b2 l2
  have HB3 := Lib.hid b3
  have HBI := Lib.hid bi
  have HL3 := Lib.hid l3
  clear b3 bi l3 hs hwb hwe
  obtain ⟨W, hW, hBX, hk0⟩ : ∃ W, W = w.alloc (.cells #[.slice ao f.Blocks.length cap, .slice tao f.Tables.length tcap, .slice fao f.Firsts.length fcap] 26) ∧ Blk W w.heap.size (.cells #[.slice ao f.Blocks.length cap, .slice tao f.Tables.length tcap, .slice fao f.Firsts.length fcap] 26) ∧ Keeps w W := ⟨_, rfl, Blk.top _ _, (Keeps.refl _).alloc _⟩
  obtain ⟨xb, hxb⟩ : ∃ xb, xb = w.heap.size := ⟨_, rfl⟩
  rw [← hxb] at hBX
  have hwx : w.heap.size ≤ xb := by omega
  have HW := Lib.hid hW
  have HBX := Lib.hid hBX
  have HK0 := Lib.hid hk0
  clear hW hBX hk0
  by_cases hbig : 4000 < l.length
  · have hE : mapE l = 1 := by unfold mapE; rw [if_pos hbig]
    have hS : mapS f l = [] := by unfold mapS; rw [hE]; rfl
    rw [hE, hS]
    have t0 : decide (4000 < (l.length : Int)) = true := decide_eq_true (by omega)
    have t0n : decide (4000 < l.length) = true := decide_eq_true (by omega)
    clear hE hS
    go_enter Tryz.func13, Tryz.ntmps13
    go_wp2_with fail
    refine bodyPost_ret (results_tmp2 rfl _ _ _) rfl ?_
    exact ⟨.slice none 0 0, rfl, edges_nil _, (by repeat (with_reducible (first | assumption | exact Keeps.refl _ | refine Keeps.alloc ?_ _ | refine Keeps.drew ?_ | refine Keeps.drewN ?_ _)))⟩
  · have t0 : decide (4000 < (l.length : Int)) = false := decide_eq_false (by omega)
    have t0n : decide (4000 < l.length) = false := decide_eq_false (by omega)
    have hpred : ∀ W', Keeps w W' → PredIn Tryz.prog 31 #[] l.length (fun i => .agg #[(nth l i).c 0, (nth l i).c 1, (nth l i).c 2]) (fun i => badC (nth l i)) W' := fun W' _ W2 i hi hk => map1_any _ _ _ _
    have hCF : ∀ W', Keeps w W' → Calls Tryz.prog 30 #[.slice lao l.length lcap, .func (.func 31) #[] #[]] W' fun e w' => e = .returned (.bool (anyN (fun i => badC (nth l i)) l.length)) ∧ Keeps W' w' := fun W' hk =>
      containsFunc_edge _ l.length (fun i j => (nth l i).c j) (fun i => badC (nth l i)) 31 #[] W' (Arr.keep HL.out hk) (enters_of Tryz.func31 (by kernel_rfl) rfl) (hpred W' hk)
    obtain ⟨bd, hbd⟩ : ∃ bd, bd = anyN (fun i => badC (nth l i)) l.length := ⟨_, rfl⟩
    rw [← hbd] at hCF
    have HCF := Lib.hid hCF
    have HBD := Lib.hid hbd
    have hE : mapE l = if bd = true then 2 else 0 := by unfold mapE; rw [if_neg hbig, ← hbd]
    have HE := Lib.hid hE
    clear hpred hCF hbd hE
    go_enter Tryz.func13, Tryz.ntmps13
    go_upto_region 1 with fail
    rw [← HW.out, ← hxb]
    clear hxb
    cases bd with
    | true =>
      have hE : mapE l = 2 := HE.out
      have hS : mapS f l = [] := by unfold mapS; rw [hE]; rfl
      have HE2 := Lib.hid hE
      have HS2 := Lib.hid hS
      clear hE hS
      go_wp2_with (go_at_call 30; refine (HCF.out _ (HK0.out.trans (by repeat (with_reducible (first | assumption | exact Keeps.refl _ | refine Keeps.alloc ?_ _ | refine Keeps.drew ?_ | refine Keeps.drewN ?_ _))))).mono ?_; rintro e wa ⟨rfl, hka⟩)
      refine bodyPost_ret (results_tmp2 rfl _ _ _) rfl ?_
      exact ⟨.slice none 0 0, by rw [HE2.out]; rfl, by rw [HS2.out]; exact edges_nil _, HK0.out.trans (Keeps.trans (by repeat (with_reducible (first | assumption | exact Keeps.refl _ | refine Keeps.alloc ?_ _ | refine Keeps.drew ?_ | refine Keeps.drewN ?_ _))) hka)⟩
    | false =>
      have hE : mapE l = 0 := HE.out
      have hS : mapS f l = l.foldl (stepD f (nx f)) [] := by unfold mapS; rw [if_pos hE]
      have HE2 := Lib.hid hE
      have HS2 := Lib.hid hS
      clear hE hS HE
      go_upto_block 0 with (go_at_call 30; refine (HCF.out _ (HK0.out.trans (by repeat (with_reducible (first | assumption | exact Keeps.refl _ | refine Keeps.alloc ?_ _ | refine Keeps.drew ?_ | refine Keeps.drewN ?_ _))))).mono ?_; rintro e wa ⟨rfl, hka⟩; have x0 := (HBX.out.keep (Keeps.trans (show Keeps W _ from (by repeat (with_reducible (first | assumption | exact Keeps.refl _ | refine Keeps.alloc ?_ _ | refine Keeps.drew ?_ | refine Keeps.drewN ?_ _)))) hka)).cell (j := 0) rfl; have xl := (HBX.out.keep (Keeps.trans (show Keeps W _ from (by repeat (with_reducible (first | assumption | exact Keeps.refl _ | refine Keeps.alloc ?_ _ | refine Keeps.drew ?_ | refine Keeps.drewN ?_ _)))) hka)).lt)
      obtain ⟨wm, hwm, hmf, hmt, hkm⟩ : ∃ wm, wm = (wa.alloc (.map #[] 0)).alloc (.map #[] 0) ∧ MI wm wa.heap.size 0 (fun _ => none) ∧ MI wm (wa.heap.size + 1) 0 (fun _ => none) ∧ Keeps wa wm :=
        ⟨_, rfl, (MapF.made wa).keep ((Keeps.refl _).alloc _), by have z := MapF.made (P := Tryz.prog) (k := 3) (e := 3) (enc := fun x : Int => Value.int .i64 x) (wf := wfI) (lit := litI) (wa.alloc (.map #[] 0)); rw [sz_alloc] at z; exact z, ((Keeps.refl _).alloc _).alloc _⟩
      have hkwa : Keeps w wa := HK0.out.trans (Keeps.trans (show Keeps W _ from (by repeat (with_reducible (first | assumption | exact Keeps.refl _ | refine Keeps.alloc ?_ _ | refine Keeps.drew ?_ | refine Keeps.drewN ?_ _)))) hka)
      have hbxa := HBX.out.keep (Keeps.trans (show Keeps W _ from (by repeat (with_reducible (first | assumption | exact Keeps.refl _ | refine Keeps.alloc ?_ _ | refine Keeps.drew ?_ | refine Keeps.drewN ?_ _)))) hka)
      rw [← hwm]
      obtain ⟨tb, htb⟩ : ∃ tb, tb = wa.heap.size + 1 := ⟨_, rfl⟩
      obtain ⟨fb, hfb⟩ : ∃ fb, fb = wa.heap.size := ⟨_, rfl⟩
      rw [← htb, ← hfb]
      rw [← hfb] at hmf
      rw [← htb] at hmt
      have hxf : xb < fb := by omega
      have hft : fb < tb := by omega
      have hwf9 : w.heap.size ≤ fb := by omega
      have HMF := Lib.hid hmf
      have HMT := Lib.hid hmt
      have HKM := Lib.hid (hkwa.trans hkm)
      have HBM := Lib.hid (hbxa.keep hkm)
      clear hwm hmf hmt hkm hkwa hbxa htb hfb x0 xl hka t0 t0n
      have x0 := HBM.out.cell (j := 0) rfl
      go_cut [] (fun wx => Hid (MI wx fb f.Blocks.length (fun x => optI (fromI f x f.Blocks.length))) ∧ Hid (MI wx tb f.Blocks.length (fun x => optI (toI f x f.Blocks.length))) ∧ Hid (Only (fun b => b = fb ∨ b = tb) wm wx))
      case first =>
        as_aux_lemma =>
          go_wp2_with fail
          go_loopw [32] (fun s32 wr => ∃ k : Nat, k ≤ f.Blocks.length ∧ s32 = .int .i64 k ∧ Hid (MI wr fb k (fun x => optI (fromI f x k))) ∧ Hid (MI wr tb k (fun x => optI (toI f x k))) ∧ Hid (Only (fun b => b = fb ∨ b = tb) wm wr)) (fun s32 _ => f.Blocks.length - (intOf s32).toNat)
          case atStart => exact ⟨0, Nat.zero_le _, rfl, HMF, HMT, Lib.hid (Only.refl _ _)⟩
          case round =>
            obtain ⟨k, hk, rfl, HF, HT, HO⟩ := hrel
            by_cases hlt : k < f.Blocks.length
            · have hltz : (k : Int) < (f.Blocks.length : Int) := by omega
              have hkw : Keeps w wr := HKM.out.trans' (Only.below HO.out (B := w.heap.size) (fun b q => by rcases q with q | q <;> omega) HKM.out.size) (Nat.le_refl _)
              obtain ⟨bb, bof, rfl, hc⟩ := HB3.out (by omega)
              obtain ⟨hCode, hAt, hLn⟩ := HBI.out k hlt
              obtain ⟨hws, hwa⟩ := HWB.out k hlt
              obtain ⟨B, hB⟩ : ∃ B, B = nth f.Blocks k := ⟨_, rfl⟩
              have c0 : wr.cell? ⟨bb, bof + k * 14, none⟩ = some (.int .i64 B.Func) := by rw [hB]; exact hkw.cell (hc k 0 hlt (by omega))
              have c1 : wr.cell? ⟨bb, bof + k * 14 + 1, none⟩ = some (.int .i64 B.Start) := by rw [hB]; exact hkw.cell (hc k 1 hlt (by omega))
              have c2 : wr.cell? ⟨bb, bof + k * 14 + 2, none⟩ = some (cv k) := hkw.cell (hc k 2 hlt (by omega))
              have c3 : wr.cell? ⟨bb, bof + k * 14 + 3, none⟩ = some (av k) := hkw.cell (hc k 3 hlt (by omega))
              have c4 : wr.cell? ⟨bb, bof + k * 14 + 4, none⟩ = some (.int .i64 B.Last.K) := by rw [hB]; exact hkw.cell (hc k 4 hlt (by omega))
              have c5 : wr.cell? ⟨bb, bof + k * 14 + 5, none⟩ = some (.int .i64 B.Last.D) := by rw [hB]; exact hkw.cell (hc k 5 hlt (by omega))
              have c6 : wr.cell? ⟨bb, bof + k * 14 + 6, none⟩ = some (.int .i64 B.Last.A) := by rw [hB]; exact hkw.cell (hc k 6 hlt (by omega))
              have c7 : wr.cell? ⟨bb, bof + k * 14 + 7, none⟩ = some (.int .i64 B.Last.B) := by rw [hB]; exact hkw.cell (hc k 7 hlt (by omega))
              have c8 : wr.cell? ⟨bb, bof + k * 14 + 8, none⟩ = some (.int .i64 B.Last.N) := by rw [hB]; exact hkw.cell (hc k 8 hlt (by omega))
              have c9 : wr.cell? ⟨bb, bof + k * 14 + 9, none⟩ = some (.bool B.Last.Lg) := by rw [hB]; exact hkw.cell (hc k 9 hlt (by omega))
              have c10 : wr.cell? ⟨bb, bof + k * 14 + 10, none⟩ = some (.int .i64 B.Ends) := by rw [hB]; exact hkw.cell (hc k 10 hlt (by omega))
              have c11 : wr.cell? ⟨bb, bof + k * 14 + 11, none⟩ = some (.int .i64 B.To) := by rw [hB]; exact hkw.cell (hc k 11 hlt (by omega))
              have c12 : wr.cell? ⟨bb, bof + k * 14 + 12, none⟩ = some (.int .i64 B.Else) := by rw [hB]; exact hkw.cell (hc k 12 hlt (by omega))
              have c13 : wr.cell? ⟨bb, bof + k * 14 + 13, none⟩ = some (lv k) := hkw.cell (hc k 13 hlt (by omega))
              have hbb : bb < wr.heap.size := lt_of_cell c0
              obtain ⟨co, ccap, hvc⟩ := Arr.form hCode
              obtain ⟨lao', lcap', hvl⟩ := Arr.form hLn
              have hAt2 : Ints wr (av k) B.At := by rw [hB]; exact Arr.keep hAt hkw
              obtain ⟨aao, acap, hva, ha1, ha2, -, ha3⟩ := hAt2
              rw [hvc] at c2
              rw [hva] at c3
              rw [hvl] at c13
              obtain ⟨al, hal⟩ : ∃ al, al = B.At.length := ⟨_, rfl⟩
              obtain ⟨cl, hcl⟩ : ∃ cl, cl = (nth f.Blocks k).Code.length := ⟨_, rfl⟩
              obtain ⟨ll, hll⟩ : ∃ ll, ll = (nth f.Blocks k).Lines.length := ⟨_, rfl⟩
              rw [← hal] at c3
              rw [← hcl] at c2
              rw [← hll] at c13
              rw [← hB] at hws hwa
              unfold maxLen at ha2
              have htoS : (fun z => if z = B.Start then some (k : Int) else optI (toI f z k)) = fun x => optI (toI f x (k + 1)) := by
                funext z
                conv => rhs; unfold toI
                rw [← hB]
                by_cases q : z = B.Start
                · rw [if_pos q, if_pos q.symm]; unfold optI; rw [if_neg (by omega)]
                · rw [if_neg q, if_neg (fun h => q h.symm)]
              have HTO := Lib.hid htoS
              have hwk : wfI (k : Int) := wfI_of (by omega) (by omega)
              have HWS := Lib.hid hws
              have HWK := Lib.hid hwk
              have HBK := Lib.hid hB
              clear hc hCode hAt hLn hvc hvl hcl hll htoS hws hwk hva
              by_cases hne : al = 0
              · have tA : decide ((0 : Int) < (al : Int)) = false := by simp; omega
                have tAn : decide (0 < al) = false := decide_eq_false (by omega)
                have hfr : (fun x => optI (fromI f x k)) = fun x => optI (fromI f x (k + 1)) := by
                  funext z
                  conv => rhs; unfold fromI
                  rw [if_neg]
                  rintro ⟨q, -⟩
                  exact q (List.length_eq_zero_iff.1 (by rw [← hB, ← hal]; exact hne))
                have HFR := Lib.hid hfr
                clear hne hfr hal hB hwa ha3
                go_wp2_with (at_mapUpdate; refine wpList_put _ rfl (.tmp 51) (.tmp 53) (.tmp 54) rfl MKI tb k _ rfl (HT.out.keep (by repeat (with_reducible (first | assumption | exact Keeps.refl _ | refine Keeps.alloc ?_ _ | refine Keeps.drew ?_ | refine Keeps.drewN ?_ _)))) (by unfold maxLen; omega) B.Start rfl HWS.out (k : Int) rfl HWK.out ?_; intro w1 hT1 hg1)
                have HF2 := Lib.hid ((HF.out.keep (show Keeps wr _ from (by repeat (with_reducible (first | assumption | exact Keeps.refl _ | refine Keeps.alloc ?_ _ | refine Keeps.drew ?_ | refine Keeps.drewN ?_ _))))).grown hg1 (by intro e; injection e with e; omega))
                have HO2 := Lib.hid (HO.out.trans (((show Keeps wr _ from (by repeat (with_reducible (first | assumption | exact Keeps.refl _ | refine Keeps.alloc ?_ _ | refine Keeps.drew ?_ | refine Keeps.drewN ?_ _)))).only _).trans (grown_only hg1 (fun b e => Or.inr (Option.some.inj e).symm))))
                have HT2 := Lib.hid hT1
                clear hT1 hg1
                go_roundw
                case rel => exact ⟨k + 1, by omega, by go_num, Lib.hid (by rw [← HFR.out]; exact HF2.out.mono (by omega)), Lib.hid (by rw [← HTO.out]; exact HT2.out), HO2⟩
                case measure => simp [intOf]; omega
              · have tA : decide ((0 : Int) < (al : Int)) = true := by simp; omega
                have tAn : decide (0 < al) = true := decide_eq_true (by omega)
                obtain ⟨rb, ro, rfl, rc⟩ := ha3 (by omega)
                obtain ⟨J, hJ⟩ : ∃ J, J = al - 1 := ⟨_, rfl⟩
                have wJ : IntKind.i64.wrap ((al : Int) - 1) = (J : Int) := by rw [IntKind.wrap_i64]; omega
                have hJz : (J : Int) < (al : Int) := by omega
                obtain ⟨z, hz⟩ : ∃ z, z = nth B.At J := ⟨_, rfl⟩
                have r0 : wr.cell? ⟨rb, ro + J, none⟩ = some (.int .i64 z) := by have q := rc J 0 (by omega) (by omega); simp only [Nat.mul_one, Nat.add_zero] at q; rw [hz]; exact q
                have hrb : rb < wr.heap.size := lt_of_cell r0
                have hwz : wfI z := by rw [hz]; exact hwa J (by omega)
                have hfr : (fun y => if y = z then some (k : Int) else optI (fromI f y k)) = fun x => optI (fromI f x (k + 1)) := by
                  funext y
                  conv => rhs; unfold fromI
                  have hAn : (nth f.Blocks k).At ≠ [] := fun q => hne (by rw [hal, hB, q]; rfl)
                  have hla : lastI (nth f.Blocks k).At = z := by unfold lastI; rw [← hB, hz, hJ, hal]
                  by_cases q : y = z
                  · rw [if_pos q, if_pos ⟨hAn, by rw [hla, q]⟩]; unfold optI; rw [if_neg (by omega)]
                  · rw [if_neg q, if_neg (fun h => q (by rw [← hla]; exact h.2.symm))]
                have HFR := Lib.hid hfr
                have HWZ := Lib.hid hwz
                clear hne hfr hal hB hwa ha3 rc hz hJ hwz
                go_wp2_with (first
                  | (at_mapUpdate; refine wpList_put _ rfl (.tmp 41) (.tmp 49) (.tmp 50) rfl MKI fb k _ rfl (HF.out.keep (by repeat (with_reducible (first | assumption | exact Keeps.refl _ | refine Keeps.alloc ?_ _ | refine Keeps.drew ?_ | refine Keeps.drewN ?_ _)))) (by unfold maxLen; omega) z rfl HWZ.out (k : Int) rfl HWK.out ?_; intro w1 hF1 hg1; have HB9 := Lib.hid (Blk.grown (Blk.top wr _) hg1 (by intro e; injection e with e; have := HF.out.lt; omega)); have b1 := HB9.out.cell (j := 1) rfl; have hbl9 := HB9.out.lt)
                  | (at_mapUpdate; refine wpList_put _ rfl (.tmp 51) (.tmp 53) (.tmp 54) rfl MKI tb k _ rfl ((HT.out.keep (show Keeps wr _ from (by repeat (with_reducible (first | assumption | exact Keeps.refl _ | refine Keeps.alloc ?_ _ | refine Keeps.drew ?_ | refine Keeps.drewN ?_ _))))).grown hg1 (by intro e; injection e with e; omega)) (by unfold maxLen; omega) B.Start rfl HWS.out (k : Int) rfl HWK.out ?_; intro w2 hT2 hg2))
                have HF2 := Lib.hid (hF1.grown hg2 (by intro e; injection e with e; omega))
                have HO2 := Lib.hid (HO.out.trans ((((show Keeps wr _ from (by repeat (with_reducible (first | assumption | exact Keeps.refl _ | refine Keeps.alloc ?_ _ | refine Keeps.drew ?_ | refine Keeps.drewN ?_ _)))).only _).trans (grown_only hg1 (fun b e => Or.inl (Option.some.inj e).symm))).trans (grown_only hg2 (fun b e => Or.inr (Option.some.inj e).symm))))
                have HT2 := Lib.hid hT2
                clear hT2 hg2 hF1 hg1
                go_roundw
                case rel => exact ⟨k + 1, by omega, by go_num, Lib.hid (by rw [← HFR.out]; exact HF2.out), Lib.hid (by rw [← HTO.out]; exact HT2.out), HO2⟩
                case measure => simp [intOf]; omega
            · obtain rfl : k = f.Blocks.length := by omega
              go_wp2_with fail
              go_meet
              case rel => exact ⟨HF, HT, HO⟩
      case rest =>
        obtain ⟨HF, HT, HO⟩ := hcut
        obtain ⟨w2, hw2⟩ : ∃ w2 : World, w2 = wc := ⟨_, rfl⟩
        subst hw2
        have hk2 : Keeps w w2 := HKM.out.trans' (Only.below HO.out (B := w.heap.size) (fun b q => by rcases q with q | q <;> omega) HKM.out.size) (Nat.le_refl _)
        have hb2 := HBM.out.only HO.out (fun q => by rcases q with q | q <;> omega)
        have hokc : ∀ i, i < l.length → badC (nth l i) = false := anyN_false HBD.out.symm
        have HOKC := Lib.hid hokc
        go_upto_block 2 with fail
        obtain ⟨ws, hws, hms, hks⟩ : ∃ ws, ws = w2.alloc (.map #[] 0) ∧ MP ws w2.heap.size 0 (fun _ => none) ∧ Keeps w2 ws := ⟨_, rfl, MapF.made w2, (Keeps.refl _).alloc _⟩
        rw [← hws]
        obtain ⟨sb, hsb⟩ : ∃ sb, sb = w2.heap.size := ⟨_, rfl⟩
        rw [← hsb]
        rw [← hsb] at hms
        have hsx : xb < sb := by have := hb2.lt; omega
        have hsf : fb < sb := by have := HF.out.lt; omega
        have hst : tb < sb := by have := HT.out.lt; omega
        have hsw : w.heap.size ≤ sb := by omega
        have HMS := Lib.hid hms
        have HFS := Lib.hid (HF.out.keep hks)
        have HTS := Lib.hid (HT.out.keep hks)
        have HKS := Lib.hid (hk2.trans hks)
        have HBS := Lib.hid (hb2.keep hks)
        clear hws hms hks hsb hk2 hb2 hokc x0
        go_cut [] (fun wx => Hid (MP wx sb l.length (sumM f l)) ∧ Hid (Only (fun b => b = sb) ws wx))
        case first =>
          as_aux_lemma =>
            go_wp2_with fail
            go_loopw [59] (fun s59 wr => ∃ k : Nat, k ≤ l.length ∧ s59 = .int .i64 k ∧ Hid (MP wr sb k (sumM f (l.take k))) ∧ Hid (Only (fun b => b = sb) ws wr)) (fun s59 _ => l.length - (intOf s59).toNat)
            case atStart => exact ⟨0, Nat.zero_le _, rfl, Lib.hid (by rw [List.take_zero]; exact HMS.out), Lib.hid (Only.refl _ _)⟩
            case round =>
              obtain ⟨k, hk, rfl, HM, HOR⟩ := hrel
              by_cases hlt : k < l.length
              · have hltz : (k : Int) < (l.length : Int) := by omega
                have hkw : Keeps w wr := HKS.out.trans' (Only.below HOR.out (B := w.heap.size) (fun b q => by omega) HKS.out.size) (Nat.le_refl _)
                have hfr := map_only HFS.out HOR.out (by omega)
                have htr := map_only HTS.out HOR.out (by omega)
                have hbr := HBS.out.only HOR.out (by omega)
                have x0 := hbr.cell (j := 0) rfl
                have x1 := hbr.cell (j := 1) rfl
                have x2 := hbr.cell (j := 2) rfl
                have hxl := hbr.lt
                obtain ⟨eb0, eo0, rfl, ec⟩ := HL3.out (by omega)
                obtain ⟨hwF, hwT⟩ := HWE.out k hlt
                have hcb := HOKC.out k hlt
                obtain ⟨⟨eF, eT, eC⟩, hE⟩ : ∃ E, E = nth l k := ⟨_, rfl⟩
                rw [← hE] at hwF hwT hcb
                have p0 : wr.cell? ⟨eb0, eo0 + k * 3, none⟩ = some (.int .i64 eF) := by have z := hkw.cell (ec k 0 hlt (by omega)); rw [← hE] at z; exact z
                have p1 : wr.cell? ⟨eb0, eo0 + k * 3 + 1, none⟩ = some (.int .i64 eT) := by have z := hkw.cell (ec k 1 hlt (by omega)); rw [← hE] at z; exact z
                have p2 : wr.cell? ⟨eb0, eo0 + k * 3 + 2, none⟩ = some (.int .i64 eC) := by have z := hkw.cell (ec k 2 hlt (by omega)); rw [← hE] at z; exact z
                have heb : eb0 < wr.heap.size := lt_of_cell p0
                have hst1 := sum_succ f l hlt
                rw [← hE] at hst1
                have hal := alike_all f l HOKC.out k hk
                have hval := hal.val
                obtain ⟨SM, hSM⟩ : ∃ SM, SM = sumM f (l.take k) := ⟨_, rfl⟩
                rw [← hSM] at HM hst1 hval
                obtain ⟨A0, hA0⟩ : ∃ A, A = fromI f eF f.Blocks.length := ⟨_, rfl⟩
                obtain ⟨B0, hB0⟩ : ∃ B, B = toI f eT f.Blocks.length := ⟨_, rfl⟩
                have hAb := fromI_bd f eF f.Blocks.length
                have hBb := toI_bd f eT f.Blocks.length
                have hst2 : sumM f (l.take (k + 1)) = if 0 ≤ A0 ∧ 0 ≤ B0 ∧ B0 ∈ nx f A0 then putS SM (A0, B0) eC else SM := by
                  rw [hst1]
                  unfold stepM
                  by_cases q : goes f (nx f) ⟨eF, eT, eC⟩
                  · rw [if_pos q, if_pos (by rw [hA0, hB0]; exact q)]; unfold placeE; rw [hA0, hB0]
                  · rw [if_neg q, if_neg (by rw [hA0, hB0]; exact q)]
                rw [← hA0] at hAb
                rw [← hB0] at hBb
                have hoA : optI (fromI f eF f.Blocks.length) = optI A0 := by rw [hA0]
                have hoB : optI (toI f eT f.Blocks.length) = optI B0 := by rw [hB0]
                have HOA := Lib.hid hoA
                have HOB := Lib.hid hoB
                have HST := Lib.hid hst2
                have HVAL := Lib.hid hval
                have HWF := Lib.hid (show wfI eF from hwF)
                have HWT := Lib.hid (show wfI eT from hwT)
                have HFR := Lib.hid hfr
                have HTR := Lib.hid htr
                have HKW := Lib.hid hkw
                have HCB := Lib.hid hcb
                clear hst1 hst2 hal hval hSM hA0 hB0 hoA hoB hwF hwT hfr htr hbr hE ec hcb hkw
                by_cases hA : A0 < 0
                case pos =>
                  have EA : Hid (optI A0 = none) := Lib.hid (by unfold optI; rw [if_pos hA])
                  have HR : Hid (sumM f (l.take (k + 1)) = SM) := Lib.hid (by rw [HST.out, if_neg (by omega)])
                  clear hA hAb hBb
                  go_wp2_with (first | (at_lookup; refine wpList_look_ok _ rfl (.tmp 64) (.tmp 66) rfl MKI fb _ _ rfl (HFR.out.keep (by repeat (with_reducible (first | assumption | exact Keeps.refl _ | refine Keeps.alloc ?_ _ | refine Keeps.drew ?_ | refine Keeps.drewN ?_ _)))) eF rfl HWF.out ?_; rw [HOA.out, EA.out]; dsimp only [Option.getD, Option.isSome]) | (at_lookup; refine wpList_look_ok _ rfl (.tmp 71) (.tmp 73) rfl MKI tb _ _ rfl (HTR.out.keep (by repeat (with_reducible (first | assumption | exact Keeps.refl _ | refine Keeps.alloc ?_ _ | refine Keeps.drew ?_ | refine Keeps.drewN ?_ _)))) eT rfl HWT.out ?_; rw [HOB.out]; dsimp only [Option.getD, Option.isSome]))
                  go_roundw
                  case rel => exact ⟨k + 1, by omega, by go_num, Lib.hid (by rw [HR.out]; exact (HM.out.keep (by repeat (with_reducible (first | assumption | exact Keeps.refl _ | refine Keeps.alloc ?_ _ | refine Keeps.drew ?_ | refine Keeps.drewN ?_ _)))).mono (by omega)), Lib.hid (HOR.out.trans (Keeps.only (by repeat (with_reducible (first | assumption | exact Keeps.refl _ | refine Keeps.alloc ?_ _ | refine Keeps.drew ?_ | refine Keeps.drewN ?_ _))) _))⟩
                  case measure => simp [intOf]; omega
                case neg =>
                obtain ⟨na, rfl⟩ : ∃ na : Nat, A0 = na := ⟨A0.toNat, by omega⟩
                have hnaB : na < f.Blocks.length := by omega
                have EA : Hid (optI (na : Int) = some (na : Int)) := Lib.hid (by unfold optI; rw [if_neg hA])
                by_cases hB : B0 < 0
                case pos =>
                  have EB : Hid (optI B0 = none) := Lib.hid (by unfold optI; rw [if_pos hB])
                  have HR : Hid (sumM f (l.take (k + 1)) = SM) := Lib.hid (by rw [HST.out, if_neg (by omega)])
                  clear hA hAb hBb hB
                  go_wp2_with (first | (at_lookup; refine wpList_look_ok _ rfl (.tmp 64) (.tmp 66) rfl MKI fb _ _ rfl (HFR.out.keep (by repeat (with_reducible (first | assumption | exact Keeps.refl _ | refine Keeps.alloc ?_ _ | refine Keeps.drew ?_ | refine Keeps.drewN ?_ _)))) eF rfl HWF.out ?_; rw [HOA.out, EA.out]; dsimp only [Option.getD, Option.isSome]) | (at_lookup; refine wpList_look_ok _ rfl (.tmp 71) (.tmp 73) rfl MKI tb _ _ rfl (HTR.out.keep (by repeat (with_reducible (first | assumption | exact Keeps.refl _ | refine Keeps.alloc ?_ _ | refine Keeps.drew ?_ | refine Keeps.drewN ?_ _)))) eT rfl HWT.out ?_; rw [HOB.out, EB.out]; dsimp only [Option.getD, Option.isSome]))
                  go_roundw
                  case rel => exact ⟨k + 1, by omega, by go_num, Lib.hid (by rw [HR.out]; exact (HM.out.keep (by repeat (with_reducible (first | assumption | exact Keeps.refl _ | refine Keeps.alloc ?_ _ | refine Keeps.drew ?_ | refine Keeps.drewN ?_ _)))).mono (by omega)), Lib.hid (HOR.out.trans (Keeps.only (by repeat (with_reducible (first | assumption | exact Keeps.refl _ | refine Keeps.alloc ?_ _ | refine Keeps.drew ?_ | refine Keeps.drewN ?_ _))) _))⟩
                  case measure => simp [intOf]; omega
                case neg =>
                have EB : Hid (optI B0 = some B0) := Lib.hid (by unfold optI; rw [if_neg hB])
                have hwA : wfI (na : Int) := wfI_of (by omega) (by omega)
                have hwB : wfI B0 := wfI_of (by omega) (by omega)
                have HWAB := Lib.hid (show wfP ((na : Int), B0) from ⟨hwA, hwB⟩)
                have HNX : Hid (∀ w', Keeps w w' → Calls Tryz.prog 32 #[.agg #[.slice ao f.Blocks.length cap, .slice tao f.Tables.length tcap, .slice fao f.Firsts.length fcap], .int .i64 (na : Int)] w' (GivesN (fun v' w'' => Ints w'' v' (nx f (na : Int))) 0 w')) := Lib.hid fun w' hk => by
                  have z := nexts_ok _ f na w' (HFL.out.keep hk) hnaB HSM.out
                  unfold nx
                  rw [Int.toNat_natCast]
                  exact z
                by_cases hC : B0 ∈ nx f (na : Int)
                case neg =>
                  have HCT : Hid ((nx f (na : Int)).contains B0 = false) := Lib.hid (by simpa using hC)
                  have HR : Hid (sumM f (l.take (k + 1)) = SM) := Lib.hid (by rw [HST.out, if_neg (fun q => hC q.2.2)])
                  clear hA hAb hBb hB hC hwA hwB
                  go_wp2_with (first | (at_lookup; refine wpList_look_ok _ rfl (.tmp 64) (.tmp 66) rfl MKI fb _ _ rfl (HFR.out.keep (by repeat (with_reducible (first | assumption | exact Keeps.refl _ | refine Keeps.alloc ?_ _ | refine Keeps.drew ?_ | refine Keeps.drewN ?_ _)))) eF rfl HWF.out ?_; rw [HOA.out, EA.out]; dsimp only [Option.getD, Option.isSome]) | (at_lookup; refine wpList_look_ok _ rfl (.tmp 71) (.tmp 73) rfl MKI tb _ _ rfl (HTR.out.keep (by repeat (with_reducible (first | assumption | exact Keeps.refl _ | refine Keeps.alloc ?_ _ | refine Keeps.drew ?_ | refine Keeps.drewN ?_ _)))) eT rfl HWT.out ?_; rw [HOB.out, EB.out]; dsimp only [Option.getD, Option.isSome]) | (go_at_call 32; refine (HNX.out _ (HKW.out.trans (by repeat (with_reducible (first | assumption | exact Keeps.refl _ | refine Keeps.alloc ?_ _ | refine Keeps.drew ?_ | refine Keeps.drewN ?_ _))))).mono ?_; rintro e w3 ⟨v3, rfl, hi3, hk3⟩; obtain ⟨a3, c3, e3⟩ := Arr.form hi3; subst e3; have hm3 := (HM.out.keep (show Keeps wr _ from (by repeat (with_reducible (first | assumption | exact Keeps.refl _ | refine Keeps.alloc ?_ _ | refine Keeps.drew ?_ | refine Keeps.drewN ?_ _))))).keep hk3; have hml3 := hm3.lt; have hbe3 := (Blk.top wr (.cells #[.int .i64 eF, .int .i64 eT, .int .i64 eC] 43)).keep hk3; have e23 := hbe3.cell (j := 2) rfl; have hel3 := hbe3.lt; have HI3 := Lib.hid hi3; have HM3 := Lib.hid hm3; have HK3 := Lib.hid (Keeps.trans (show Keeps wr _ from (by repeat (with_reducible (first | assumption | exact Keeps.refl _ | refine Keeps.alloc ?_ _ | refine Keeps.drew ?_ | refine Keeps.drewN ?_ _)))) hk3); clear hi3 hm3 hk3 hbe3) | (go_at_call 33; refine (contains_any _ (nx f (na : Int)) B0 _ HI3.out).mono ?_; rintro e w4 ⟨rfl, rfl⟩; rw [HCT.out]))
                  go_roundw
                  case rel => exact ⟨k + 1, by omega, by go_num, Lib.hid (by rw [HR.out]; exact HM3.out.mono (by omega)), Lib.hid (HOR.out.trans (Keeps.only HK3.out _))⟩
                  case measure => simp [intOf]; omega
                case pos =>
                have HCT : Hid ((nx f (na : Int)).contains B0 = true) := Lib.hid (by simpa using hC)
                have HR : Hid (sumM f (l.take (k + 1)) = putS SM ((na : Int), B0) eC) := Lib.hid (by rw [HST.out, if_pos ⟨by omega, by omega, hC⟩])
                clear hA hAb hBb hB hC hwA hwB
                go_upto_region 22 with (first | (at_lookup; refine wpList_look_ok _ rfl (.tmp 64) (.tmp 66) rfl MKI fb _ _ rfl (HFR.out.keep (by repeat (with_reducible (first | assumption | exact Keeps.refl _ | refine Keeps.alloc ?_ _ | refine Keeps.drew ?_ | refine Keeps.drewN ?_ _)))) eF rfl HWF.out ?_; rw [HOA.out, EA.out]; dsimp only [Option.getD, Option.isSome]) | (at_lookup; refine wpList_look_ok _ rfl (.tmp 71) (.tmp 73) rfl MKI tb _ _ rfl (HTR.out.keep (by repeat (with_reducible (first | assumption | exact Keeps.refl _ | refine Keeps.alloc ?_ _ | refine Keeps.drew ?_ | refine Keeps.drewN ?_ _)))) eT rfl HWT.out ?_; rw [HOB.out, EB.out]; dsimp only [Option.getD, Option.isSome]) | (go_at_call 32; refine (HNX.out _ (HKW.out.trans (by repeat (with_reducible (first | assumption | exact Keeps.refl _ | refine Keeps.alloc ?_ _ | refine Keeps.drew ?_ | refine Keeps.drewN ?_ _))))).mono ?_; rintro e w3 ⟨v3, rfl, hi3, hk3⟩; obtain ⟨a3, c3, e3⟩ := Arr.form hi3; subst e3; have hm3 := (HM.out.keep (show Keeps wr _ from (by repeat (with_reducible (first | assumption | exact Keeps.refl _ | refine Keeps.alloc ?_ _ | refine Keeps.drew ?_ | refine Keeps.drewN ?_ _))))).keep hk3; have hml3 := hm3.lt; have hbe3 := (Blk.top wr (.cells #[.int .i64 eF, .int .i64 eT, .int .i64 eC] 43)).keep hk3; have e23 := hbe3.cell (j := 2) rfl; have hel3 := hbe3.lt; have HI3 := Lib.hid hi3; have HM3 := Lib.hid hm3; have HK3 := Lib.hid (Keeps.trans (show Keeps wr _ from (by repeat (with_reducible (first | assumption | exact Keeps.refl _ | refine Keeps.alloc ?_ _ | refine Keeps.drew ?_ | refine Keeps.drewN ?_ _)))) hk3); clear hi3 hm3 hk3 hbe3) | (go_at_call 33; refine (contains_any _ (nx f (na : Int)) B0 _ HI3.out).mono ?_; rintro e w4 ⟨rfl, rfl⟩; rw [HCT.out]))
                obtain ⟨c0, hc0⟩ : ∃ c, c = (SM ((na : Int), B0)).getD 0 := ⟨_, rfl⟩
                have hc0b : 0 ≤ c0 ∧ c0 ≤ 1073741824 := by
                  rw [hc0]
                  cases hz : SM ((na : Int), B0) with
                  | none => exact ⟨Int.le_refl _, by decide⟩
                  | some z => exact HVAL.out _ z hz
                have hcc : 0 ≤ eC ∧ eC ≤ 1073741824 := by
                  have z := HCB.out
                  unfold badC at z
                  simp only [decide_eq_false_iff_not] at z
                  omega
                have hmd : MP w4.drew sb k SM := HM3.out.keep ((Keeps.refl _).drew)
                have hlk := (hmd.look MKP HWAB.out false).1
                rw [← hc0] at hlk
                have hlk2 : (Instr.lookup 75 (.map (some sb)) (.agg #[.int .i64 (na : Int), .int .i64 B0]) false).run Tryz.prog w4.drew = .ok (.int .i64 c0) w4.drew := hlk
                have hcw : wfI (capS (c0 + eC)) := wfI_of (by unfold capS; omega) (by unfold capS; omega)
                have HMD := Lib.hid hmd
                have HCW := Lib.hid hcw
                obtain ⟨eb, heb2⟩ : ∃ eb, eb = wr.heap.size := ⟨_, rfl⟩
                rw [← heb2] at e23 ⊢
                have hel4 : eb < w4.heap.size := by omega
                have hput : (fun y => if y = ((na : Int), B0) then some (capS (c0 + eC)) else SM y) = putS SM ((na : Int), B0) eC := by
                  unfold putS
                  rw [← hc0]
                have HPUT := Lib.hid hput
                have HCAP := Lib.hid (fun W => capped_any c0 eC W hc0b.1 hc0b.2 hcc.1 hcc.2)
                clear hc0 hc0b hcc hmd hlk hcw hput heb2
                refine wp_region_head_tail (S := fun w' => (Instr.lookup 75 (.map (some sb)) (.agg #[.int .i64 (na : Int), .int .i64 B0]) false).run Tryz.prog w' = .ok (.int .i64 c0) w' ∧ w'.cell? ⟨eb, 2, none⟩ = some (.int .i64 eC)) 12 0 (v := .map (some sb)) (by kernel_rfl) rfl (by kernel_rfl) (by kernel_rfl) (by kernel_rfl) (by decide) (fun _ _ _ h => h) (Or.inl ⟨by rfl, fun w => by rfl⟩) (by kernel_rfl) (by kernel_rfl) (by kernel_rfl) (by decide) (by kernel_rfl) ?hS (fun hHeld => ?_)
                case hS => exact ⟨hlk2, by simpa using e23⟩
                simp only [List.take_succ_cons, List.take_zero, List.drop_succ_cons, List.drop_zero, List.getElem_toArray, List.getElem_cons_zero]
                try simp only [Act.put, List.setIfInBounds_toArray, List.set_cons_zero, List.set_cons_succ]
                refine wpAnyH_take (i := 1) (oi := ?o1) (v := ?v1) ?h1 ?a1 ?b1 ?c1 ?q1 (Or.inl ⟨?w1, ?y1⟩) hHeld ?r1
                case h1 => (simp only [List.getElem?_toArray, List.getElem?_cons_zero, List.getElem?_cons_succ]; try rfl)
                case a1 => kernel_rfl
                case b1 => kernel_rfl
                case c1 => kernel_rfl
                case q1 => exact fun _ _ _ h => h
                case w1 => rfl
                case y1 =>
                  intro w hSw
                  (try dsimp only at hSw)
                  go_simp
                  try with_reducible rfl
                try simp only [Act.put, List.setIfInBounds_toArray, List.set_cons_zero, List.set_cons_succ]
                refine wpAnyH_take (i := 2) (oi := ?o2) (v := ?v2) ?h2 ?a2 ?b2 ?c2 ?q2 (Or.inl ⟨?w2, ?y2⟩) hHeld ?r2
                case h2 => (simp only [List.getElem?_toArray, List.getElem?_cons_zero, List.getElem?_cons_succ]; try rfl)
                case a2 => kernel_rfl
                case b2 => kernel_rfl
                case c2 => kernel_rfl
                case q2 => exact fun _ _ _ h => h
                case w2 => rfl
                case y2 =>
                  intro w hSw
                  (try dsimp only at hSw)
                  go_simp
                  try with_reducible rfl
                try simp only [Act.put, List.setIfInBounds_toArray, List.set_cons_zero, List.set_cons_succ]
                refine wpAnyH_take (i := 3) (oi := ?o3) (v := ?v3) ?h3 ?a3 ?b3 ?c3 ?q3 (Or.inl ⟨?w3, ?y3⟩) hHeld ?r3
                case h3 => (simp only [List.getElem?_toArray, List.getElem?_cons_zero, List.getElem?_cons_succ]; try rfl)
                case a3 => kernel_rfl
                case b3 => kernel_rfl
                case c3 => kernel_rfl
                case q3 => exact fun _ _ _ h => h
                case w3 => rfl
                case y3 =>
                  intro w hSw
                  (try dsimp only at hSw)
                  go_simp
                  try with_reducible rfl
                try simp only [Act.put, List.setIfInBounds_toArray, List.set_cons_zero, List.set_cons_succ]
                refine wpAnyH_take (i := 4) (oi := ?o4) (v := ?v4) ?h4 ?a4 ?b4 ?c4 ?q4 (Or.inl ⟨?w4, ?y4⟩) hHeld ?r4
                case h4 => (simp only [List.getElem?_toArray, List.getElem?_cons_zero, List.getElem?_cons_succ]; try rfl)
                case a4 => kernel_rfl
                case b4 => kernel_rfl
                case c4 => kernel_rfl
                case q4 => exact fun _ _ _ h => h
                case w4 => rfl
                case y4 =>
                  intro w hSw
                  (try dsimp only at hSw)
                  go_simp
                  try with_reducible rfl
                try simp only [Act.put, List.setIfInBounds_toArray, List.set_cons_zero, List.set_cons_succ]
                refine wpAnyH_take (i := 5) (oi := ?o5) (v := ?v5) ?h5 ?a5 ?b5 ?c5 ?q5 (Or.inl ⟨?w5, ?y5⟩) hHeld ?r5
                case h5 => (simp only [List.getElem?_toArray, List.getElem?_cons_zero, List.getElem?_cons_succ]; try rfl)
                case a5 => kernel_rfl
                case b5 => kernel_rfl
                case c5 => kernel_rfl
                case q5 => exact fun _ _ _ h => h
                case w5 => rfl
                case y5 =>
                  intro w hSw
                  (try dsimp only at hSw)
                  go_simp
                  try with_reducible rfl
                try simp only [Act.put, List.setIfInBounds_toArray, List.set_cons_zero, List.set_cons_succ]
                refine wpAnyH_take (i := 6) (oi := ?o6) (v := ?v6) ?h6 ?a6 ?b6 ?c6 ?q6 (Or.inl ⟨?w6, ?y6⟩) hHeld ?r6
                case h6 => (simp only [List.getElem?_toArray, List.getElem?_cons_zero, List.getElem?_cons_succ]; try rfl)
                case a6 => kernel_rfl
                case b6 => kernel_rfl
                case c6 => kernel_rfl
                case q6 => exact fun _ _ _ h => h
                case w6 => rfl
                case y6 =>
                  intro w hSw
                  (try dsimp only at hSw)
                  go_simp
                  try with_reducible rfl
                try simp only [Act.put, List.setIfInBounds_toArray, List.set_cons_zero, List.set_cons_succ]
                refine wpAnyH_take (i := 7) (oi := ?o7) (v := ?v7) ?h7 ?a7 ?b7 ?c7 ?q7 (Or.inl ⟨?w7, ?y7⟩) hHeld ?r7
                case h7 => (simp only [List.getElem?_toArray, List.getElem?_cons_zero, List.getElem?_cons_succ]; try rfl)
                case a7 => kernel_rfl
                case b7 => kernel_rfl
                case c7 => kernel_rfl
                case q7 => exact fun _ _ _ h => h
                case w7 => rfl
                case y7 =>
                  intro w hSw
                  (try dsimp only at hSw)
                  go_simp
                  try with_reducible rfl
                try simp only [Act.put, List.setIfInBounds_toArray, List.set_cons_zero, List.set_cons_succ]
                refine wpAnyH_take (i := 8) (oi := ?o8) (v := ?v8) ?h8 ?a8 ?b8 ?c8 ?q8 (Or.inl ⟨?w8, ?y8⟩) hHeld ?r8
                case h8 => (simp only [List.getElem?_toArray, List.getElem?_cons_zero, List.getElem?_cons_succ]; try rfl)
                case a8 => kernel_rfl
                case b8 => kernel_rfl
                case c8 => kernel_rfl
                case q8 => exact fun _ _ _ h => h
                case w8 => rfl
                case y8 =>
                  intro w hSw
                  (try dsimp only at hSw)
                  have hq := hSw.1
                  simp only [execOp, Act.eval]
                  simp [hq, Result.andThen]
                  try rfl
                try simp only [Act.put, List.setIfInBounds_toArray, List.set_cons_zero, List.set_cons_succ]
                refine wpAnyH_take (i := 9) (oi := ?o9) (v := ?v9) ?h9 ?a9 ?b9 ?c9 ?q9 (Or.inl ⟨?w9, ?y9⟩) hHeld ?r9
                case h9 => (simp only [List.getElem?_toArray, List.getElem?_cons_zero, List.getElem?_cons_succ]; try rfl)
                case a9 => kernel_rfl
                case b9 => kernel_rfl
                case c9 => kernel_rfl
                case q9 => exact fun _ _ _ h => h
                case w9 => rfl
                case y9 =>
                  intro w hSw
                  (try dsimp only at hSw)
                  go_simp
                  try with_reducible rfl
                try simp only [Act.put, List.setIfInBounds_toArray, List.set_cons_zero, List.set_cons_succ]
                refine wpAnyH_take (i := 10) (oi := ?o10) (v := ?v10) ?h10 ?a10 ?b10 ?c10 ?q10 (Or.inl ⟨?w10, ?y10⟩) hHeld ?r10
                case h10 => (simp only [List.getElem?_toArray, List.getElem?_cons_zero, List.getElem?_cons_succ]; try rfl)
                case a10 => kernel_rfl
                case b10 => kernel_rfl
                case c10 => kernel_rfl
                case q10 => exact fun _ _ _ h => h
                case w10 => rfl
                case y10 =>
                  intro w hSw
                  (try dsimp only at hSw)
                  go_simp
                  try with_reducible rfl
                try simp only [Act.put, List.setIfInBounds_toArray, List.set_cons_zero, List.set_cons_succ]
                refine wpAnyH_ready (rs := [11]) (by kernel_rfl) (by simp) ?_
                refine AllReadyH.cons (o := ?oc) ?hc ?sc ?mc
                case hc => (simp only [List.getElem?_toArray, List.getElem?_cons_zero, List.getElem?_cons_succ]; try rfl)
                case sc =>
                  intro K hK
                  go_simp
                  go_at_call 34
                  refine (HCAP.out _).mono ?_
                  rintro e w' ⟨rfl, rfl⟩
                  refine hK.out _ _ ?Sc ?Rc
                  case Sc => with_reducible exact hHeld
                  case Rc =>
                    clear hHeld
                    intro hHeld
                    clear hK K
                    try simp only [Act.put, List.setIfInBounds_toArray, List.set_cons_zero, List.set_cons_succ]
                    refine wpAnyH_done (by kernel_rfl) ?_ _
                    dsimp only [TailQ]
                    go_wp2_with (at_mapUpdate; refine wpList_put _ rfl (.tmp 92) (.tmp 95) (.tmp 103) rfl MKP sb k _ rfl HMD.out (by unfold maxLen; omega) ((na : Int), B0) rfl HWAB.out (capS (c0 + eC)) rfl HCW.out ?_; intro w9 hM9 hg9)
                    have HM9 := Lib.hid hM9
                    have HG9 := Lib.hid hg9
                    clear hM9 hg9
                    go_roundw
                    case rel => exact ⟨k + 1, by omega, by go_num, Lib.hid (by rw [HR.out, ← HPUT.out]; exact HM9.out.keep (by repeat (with_reducible (first | assumption | exact Keeps.refl _ | refine Keeps.alloc ?_ _ | refine Keeps.drew ?_ | refine Keeps.drewN ?_ _)))), Lib.hid ((HOR.out.trans ((HK3.out.only _).trans ((show Keeps w4 w4.drew from (Keeps.refl _).drew).only _))).trans ((grown_only HG9.out (fun b e => (Option.some.inj e).symm)).trans (Keeps.only (by repeat (with_reducible (first | assumption | exact Keeps.refl _ | refine Keeps.alloc ?_ _ | refine Keeps.drew ?_ | refine Keeps.drewN ?_ _))) _)))⟩
                    case measure => simp [intOf]; omega
                exact AllReadyH.nil
              · obtain rfl : l.length = k := by omega
                rw [List.take_length] at HM
                go_wp2_with fail
                go_meet
                case rel => exact ⟨HM, HOR⟩
        case rest =>
          obtain ⟨HM, HOM⟩ := hcut
          obtain ⟨w3, hw3⟩ : ∃ w3 : World, w3 = wc := ⟨_, rfl⟩
          subst hw3
          have hk3 : Keeps w w3 := HKS.out.trans' (Only.below HOM.out (B := w.heap.size) (fun b q => by omega) HKS.out.size) (Nat.le_refl _)
          have hal := alike_all f l HOKC.out l.length (Nat.le_refl _)
          rw [List.take_length] at hal
          obtain ⟨SM, hSM⟩ : ∃ SM, SM = sumM f l := ⟨_, rfl⟩
          rw [← hSM] at HM hal
          have HAL := Lib.hid hal
          have HK3 := Lib.hid hk3
          clear hal hk3 HF HT HO HMF HMT HKM HBM HFS HTS HKS HBS HMS HOM
          go_upto_block 4 with (at_range; refine wpList_rg _ rfl (.tmp 105) rfl MKP sb l.length _ rfl (HM.out.keep (by repeat (with_reducible (first | assumption | exact Keeps.refl _ | refine Keeps.alloc ?_ _ | refine Keeps.drew ?_ | refine Keeps.drewN ?_ _)))) ?_; intro w4 cnt hR hg4 hs4)
          have HSMM := Lib.hid hSM
          clear hSM
          have hklen : ∀ K : List (Int × Int), K.Nodup → (∀ p ∈ K, ∃ n, SM p = some n) → K.length ≤ l.length := fun K hn hs => by
            have z := nodup_len (L := l.map (placeE f)) hn (fun p hp => by
              obtain ⟨n, q⟩ := hs p hp
              rw [HSMM.out] at q
              rcases sum_key f l _ q with ⟨e, he, _, hp2⟩ | ⟨n', h'⟩
              · exact List.mem_map.2 ⟨e, he, hp2⟩
              · cases h')
            rwa [List.length_map] at z
          have HKLEN := Lib.hid hklen
          clear hklen
          go_frame
          obtain ⟨rb, hrb⟩ : ∃ rb, rb = w3.heap.size := ⟨_, rfl⟩
          rw [← hrb] at hR hs4
          have HR := Lib.hid hR
          have HG4 := Lib.hid hg4
          have HS4 := Lib.hid hs4
          have HRB := Lib.hid (show rb ≤ w3.heap.size ∧ w3.heap.size ≤ rb by omega)
          rw [← hrb]
          clear hrb hR hg4 hs4
          go_cut [19] (fun s19 wx => ∃ K : List (Int × Int), Hid (K.Nodup ∧ ∀ p, p ∈ K ↔ wfP p ∧ ∃ n, SM p = some n ∧ 0 < n) ∧ Hid (Own wx w4.heap.size 43 3 ced s19 (K.map (edM SM))) ∧ Hid (Only (fun b => b = rb) w4 wx))
          case first =>
            go_wp2_with fail
            go_loopw [19] (fun s19 wr => ∃ (K : List (Int × Int)) (left : Int × Int → Bool) (cnt : Nat), Hid (K.Nodup ∧ ∀ p, p ∈ K ↔ wfP p ∧ left p = false ∧ ∃ n, SM p = some n ∧ 0 < n) ∧ Hid (MapRg Tryz.prog 80 3 encP wfP litI wr sb rb l.length SM left cnt) ∧ Hid (Own wr w4.heap.size 43 3 ced s19 (K.map (edM SM))) ∧ Hid (Only (fun b => b = rb) w4 wr)) (fun _ wr => wr.rangeLeft sb rb)
            case atStart => exact ⟨[], _, _, Lib.hid ⟨List.nodup_nil, fun p => ⟨fun h => (List.not_mem_nil h).elim, fun ⟨_, h, n, e, _⟩ => by rw [e] at h; cases h⟩⟩, HR, Lib.hid (Own.nil _ _ _ _ _), Lib.hid (Only.refl _ _)⟩
            case round =>
              obtain ⟨K, left, cnt, HK, HRG, HOW, HOR⟩ := hrel
              go_wp2_with (at_next; refine wpList_nx _ rfl (.tmp 106) rfl MKP sb rb l.length SM left cnt rfl (HRG.out.keep (by repeat (with_reducible (first | assumption | exact Keeps.refl _ | refine Keeps.alloc ?_ _ | refine Keeps.drew ?_ | refine Keeps.drewN ?_ _)))) ?_ ?_)
              · intro hc0 hl0
                have HKE : Hid (K.Nodup ∧ ∀ p, p ∈ K ↔ wfP p ∧ ∃ n, SM p = some n ∧ 0 < n) := Lib.hid ⟨HK.out.1, fun p => (HK.out.2 p).trans ⟨fun h => ⟨h.1, h.2.2⟩, fun h => ⟨h.1, hl0 p.1 p.2 h.1, h.2⟩⟩⟩
                clear hc0 hl0
                go_wp2_with fail
                go_meet
                case rel => exact ⟨K, HKE, HOW, HOR⟩
              · intro kx ky c w5 cnt5 hwx hwc hlx hat hrg5 hlt5 hg5 hs5 hen5
                have hen6 : (Instr.entry (.pointer (some ⟨rb, 0, none⟩))).run Tryz.prog w5 = .ok (.tuple #[.agg #[.int .i64 kx, .int .i64 ky], .int .i64 c]) w5 := hen5
                have HRG5 := Lib.hid hrg5
                have HOW5 := Lib.hid (HOW.out.other hg5 (fun g q e => by have z := own_base' HOW.out q; have := HS4.out; injection e with e; omega))
                have HOR5 := Lib.hid (HOR.out.trans (grown_only hg5 (fun b e => (Option.some.inj e).symm)))
                have hs45 : w4.heap.size ≤ w5.heap.size := HOR5.out.size
                have hrbl : rb < w5.heap.size := HRG5.out.lt.2
                have HLT := Lib.hid hlt5
                have HMX := Lib.hid hat
                have HLX := Lib.hid hlx
                have HWX := Lib.hid hwx
                clear hen5 hrg5 hg5 hs5 hlt5 hat hlx hwx hwc
                by_cases hcp : 0 < c
                · have tc : decide ((0 : Int) < c) = true := decide_eq_true hcp
                  have HC9 := Lib.hid hcp
                  clear hcp
                  have hKL : K.length ≤ l.length := HKLEN.out K HK.out.1 (fun p hp => by obtain ⟨_, _, n, hn, _⟩ := (HK.out.2 p).1 hp; exact ⟨n, hn⟩)
                  obtain ⟨NK, hNK⟩ : ∃ NK, NK = (K.map (edM SM)).length := ⟨_, rfl⟩
                  have hNK2 : NK ≤ 4000 := by rw [hNK, List.length_map]; omega
                  obtain ⟨a19, c19, e19⟩ := own_form' HOW5.out
                  rw [← hNK] at e19
                  subst e19
                  have HNK := Lib.hid hNK
                  clear hNK hKL
                  go_wp2_with (at_builtin; (refine wpList_pushes (by rfl) (.tmp 114) (.tmp 121) 27 (by rfl) Tryz.underlying27 info_edge (by rfl) (by decide) (base := w4.heap.size) (f := ced) (l := K.map (edM SM)) (by rfl) (by exact HOW5.out.keep (by repeat (with_reducible (first | assumption | exact Keeps.refl _ | refine Keeps.alloc ?_ _ | refine Keeps.drew ?_ | refine Keeps.drewN ?_ _)))) [⟨kx, ky, c⟩] _ _ (by rfl) (by exact Blk.top' _ _ (by first | rfl | simp)) ced_len (fun y u hu => ced_one y u hu) (by simp only [List.length_cons, List.length_nil, ← HNK.out]; omega) (by simp only [List.length_cons, List.length_nil, ← HNK.out]; unfold maxLen; omega) (by first | omega | (simp only [sz_alloc]; omega)) ?_); intro v7 w7 hown7 hbel7 hgr7 hfr7)
                  have HO7 := Lib.hid (HOR5.out.trans' (((show Keeps w5 _ from (by repeat (with_reducible (first | assumption | exact Keeps.refl _ | refine Keeps.alloc ?_ _ | refine Keeps.drew ?_ | refine Keeps.drewN ?_ _)))).only (fun b => (Value.slice a19 NK c19).ownBlock = some b)).trans (grown_only hgr7 (fun b e => e))) (fun b q => Or.inr (own_base' HOW5.out q)))
                  have HR7 := Lib.hid ((HRG5.out.keep (show Keeps w5 _ from (by repeat (with_reducible (first | assumption | exact Keeps.refl _ | refine Keeps.alloc ?_ _ | refine Keeps.drew ?_ | refine Keeps.drewN ?_ _))))).grown hgr7 (fun e => by have := own_base' HOW5.out e.symm; have := HS4.out; have := HM.out.lt; have := HRB.out; omega) (fun e => by have := own_base' HOW5.out e.symm; have := HS4.out; omega))
                  refine ⟨⟨K ++ [(kx, ky)], _, _, Lib.hid (keys_add HK.out HMX.out HC9.out HWX.out HLX.out), HR7, Lib.hid (by rw [List.map_append, List.map_singleton, show edM SM (kx, ky) = ⟨kx, ky, c⟩ from by unfold edM; rw [HMX.out]; rfl]; exact hown7), HO7⟩, ?_⟩
                  rw [HR7.out.left_eq, HRG.out.left_eq]
                  exact HLT.out
                · have tc : decide ((0 : Int) < c) = false := decide_eq_false hcp
                  have HC9 := Lib.hid hcp
                  clear hcp
                  go_wp2_with fail
                  refine ⟨⟨K, _, _, Lib.hid (keys_skip HK.out HMX.out HC9.out), Lib.hid (HRG5.out.keep ((Keeps.refl _).alloc _)), Lib.hid (HOW5.out.keep ((Keeps.refl _).alloc _)), Lib.hid (HOR5.out.trans (((Keeps.refl _).alloc _).only _))⟩, ?_⟩
                  rw [(HRG5.out.keep ((Keeps.refl _).alloc _)).left_eq, HRG.out.left_eq]
                  exact HLT.out
          case rest =>
            obtain ⟨K, HKE, HOW, HOR⟩ := hcut
            obtain ⟨w8, hw8⟩ : ∃ w8 : World, w8 = wc := ⟨_, rfl⟩
            subst hw8
            have hwk : ∀ p ∈ K, wfK p := fun p hp => by
              obtain ⟨_, n, q, _⟩ := (HKE.out.2 p).1 hp
              rw [HSMM.out] at q
              rcases sum_key f l _ q with ⟨e, _, hg, hp2⟩ | ⟨n', h'⟩
              · obtain ⟨g1, g2, _⟩ := hg
                have b1 := fromI_bd f e.From f.Blocks.length
                have b2 := toI_bd f e.To f.Blocks.length
                rw [← hp2]
                unfold wfK placeE
                dsimp only
                omega
              · cases h'
            have hfin : (K.mergeSort fun x y => !kLt y x).map (edM SM) = l.foldl (stepD f (nx f)) [] :=
              HAL.out.sorted HKE.out.1 (fun p => (HKE.out.2 p).trans ⟨fun h => h.2, fun h => ⟨(by
                obtain ⟨n, q, _⟩ := h
                rw [HSMM.out] at q
                rcases sum_key f l _ q with ⟨e, _, hg, hp2⟩ | ⟨n', h'⟩
                · obtain ⟨g1, g2, _⟩ := hg
                  have b1 := fromI_bd f e.From f.Blocks.length
                  have b2 := toI_bd f e.To f.Blocks.length
                  rw [← hp2]
                  unfold placeE wfP
                  exact ⟨wfI_of (by dsimp only; omega) (by dsimp only; omega), wfI_of (by dsimp only; omega) (by dsimp only; omega)⟩
                · cases h'), h⟩⟩)
            have hkw8 : Keeps w w8 := by
              have k3 := HK3.out
              have s3 := k3.size
              have g4 := HG4.out
              have hrb := HRB.out
              have k4 : Keeps w w4 := k3.trans (below_grown g4 (Nat.le_refl _) (fun _ e => by cases e))
              exact k4.trans' (Only.below HOR.out (B := w.heap.size) (fun b q => by omega) k4.size) (Nat.le_refl _)
            have HFIN := Lib.hid hfin
            have HKW8 := Lib.hid hkw8
            have HSRT := Lib.hid (fun W hk => sortEd_any (w := W) SM hwk (HOW.out.keep hk) (by have := HKLEN.out K HKE.out.1 (fun p hp => by obtain ⟨_, n, q, _⟩ := (HKE.out.2 p).1 hp; exact ⟨n, q⟩); omega))
            obtain ⟨NK, hNK⟩ : ∃ NK, NK = (K.map (edM SM)).length := ⟨_, rfl⟩
            obtain ⟨a19, c19, e19⟩ := own_form' HOW.out
            rw [← hNK] at e19
            clear hwk hfin hkw8 hNK
            subst e19
            go_wp2_with (go_at_call 35; refine (HSRT.out _ (by repeat (with_reducible (first | assumption | exact Keeps.refl _ | refine Keeps.alloc ?_ _ | refine Keeps.drew ?_ | refine Keeps.drewN ?_ _)))).mono ?_; rintro r w9 ⟨rfl, hO9, hg9⟩)
            refine bodyPost_ret (results_tmp2 rfl _ _ _) rfl ?_
            refine ⟨_, by rw [HE2.out]; rfl, ?_, ?_⟩
            · rw [HS2.out, ← HFIN.out]
              exact own_ed hO9
            · exact HKW8.out.trans' (below_grown hg9 (by have := HKW8.out.size; omega) (fun b e => by have z := own_base' HOW.out e; have := HS4.out; have := HRB.out; have := HK3.out.size; omega)) (Nat.le_refl _)
end Go.Proofs.YtjnhiiidcjajbaaGreatDoor
