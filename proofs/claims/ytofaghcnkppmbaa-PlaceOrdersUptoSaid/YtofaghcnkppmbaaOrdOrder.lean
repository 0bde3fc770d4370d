/-
  place.Order: the order of a flow's blocks by edges.
-/
import Derived.Test.YtofaghcnkppmbaaOrdOrdM
import Derived.Test.YtofaghcnkppmbaaOrdJoin
import Derived.Test.YtofaghcnkppmbaaOrdParts
import Derived.Test.YtofaghcnkppmbaaOrdClone
import Derived.Test.YtofaghcnkppmbaaEdges
import Derived.Test.YtofaghcnkppmbaaRegTail
import Derived.OwnWalk
namespace Go.Proofs.Ytofaghcnkppmbaa
open Go.RowKit BH Go.Sort
set_option maxHeartbeats 1000000000
set_option maxRecDepth 100000
/-- the error that place.Order answers -/
def orderE (f : Fl) (l : List Ed) : Int := if flowFit f then edgesGo (f.Blocks.length : Int) l l.length 0 else 8
def oftenL (l : List Ed) : List Ed := l.mergeSort (leOf cntLt)
/-- the order that place.Order answers -/
def orderS (f : Fl) (l : List Ed) : List Pa := if orderE f l = 0 then partsC f (chL f (oftenL l)).ls (heatL f.Blocks.length (oftenL l)) else []
theorem partsAt_nil (w : World) : PartsAt w (.slice none 0 0) [] := ⟨fun _ => undef, ⟨none, 0, rfl, Nat.le_refl _, by unfold maxLen; omega, fun _ => rfl, fun h => absurd h (Nat.lt_irrefl _)⟩, fun i h => absurd h (Nat.not_lt_zero _)⟩
theorem edges_ok {n : Nat} {l : List Ed} : ∀ (d k : Nat), edgesGo n l d k = 0 → k + d = l.length → ∀ j, k ≤ j → j < l.length → EdOk n (nth l j)
  | 0, k, _, hd, j, h1, h2 => by omega
  | d + 1, k, h, hd, j, h1, h2 => by
    unfold edgesGo at h
    by_cases hb : edgeBad n (nth l k) = true
    · rw [if_pos hb] at h; cases h
    · rw [if_neg hb] at h
      by_cases ho : k > 0 ∧ edgeOrd (nth l (k - 1)) (nth l k) = true
      · rw [if_pos ho] at h; cases h
      · rw [if_neg ho] at h
        rcases Nat.lt_or_ge k j with q | q
        · exact edges_ok d (k + 1) h (by omega) j (by omega) h2
        · obtain rfl : j = k := by omega
          unfold edgeBad at hb
          simp only [decide_eq_true_eq] at hb
          exact ⟨by omega, by omega, by omega, by omega⟩
theorem blk_alloc {w : World} {g : Nat} {o : Obj} (h : Blk w g o) (o' : Obj) : Blk (w.alloc o') g o := h.keep ((Keeps.refl _).alloc _)
theorem blk_drew {w : World} {g : Nat} {o : Obj} (h : Blk w g o) : Blk w.drew g o := h.keep ((Keeps.refl _).drew)
theorem blk_drewN {w : World} {g : Nat} {o : Obj} (h : Blk w g o) (n : Nat) : Blk (w.drewN n) g o := h.keep ((Keeps.refl _).drewN n)
theorem cs0_succ (i : Nat) : cs0 (i + 1) = ⟨(cs0 i).of ++ [(i : Int)], (cs0 i).ls ++ [[(i : Int)]]⟩ := by simp [cs0, List.range_succ]
def toSv (s : Sle) : Sv := ⟨s.a, s.n, s.c⟩
theorem parts_ch {f : Fl} {s : Cs} {H : List Int} {vf vl vo vh : Value} {w : World} {B g : Nat} {vs : List Sle} (hf : FlowAt w vf f) (hst : ChSt w B g 41 3 24 vo vl vs s) (hinv : CInv f.Blocks.length s) (hH : Ints w vh H) (hHl : H.length = f.Blocks.length)
    (hnb : f.Blocks.length ≤ 1073741824) (hnf : f.Firsts.length ≤ 1073741824) (hn : ∀ j, j < H.length → 0 ≤ nth H j) (tot : sumH H s.ls.flatten ≤ 4611686018427387904) :
    Calls Try.prog 17 #[vf, vl, vh] w (Gives (fun v w' => PartsAt w' v (partsC f s.ls H)) w) := by
  have hlen : vs.length = f.Blocks.length := by rw [hst.len, hinv.ll]
  have hrow : ∀ j, j < vs.length → Ints w (argCh (toSv (nth vs j))) (nth s.ls j) := fun j hj => (hst.row j hj).ints
  have hnm : ∀ j, j < vs.length → nth (vs.map toSv) j = toSv (nth vs j) := fun j hj => by rw [nth_eq _ _ (by simpa using hj), List.getElem_map, ← nth_eq _ _ hj]
  have hR : (vs.map toSv).map (rdC w) = s.ls := by
    apply List.ext_getElem
    · simp [hst.len]
    · intro j h1 h2
      have hj : j < vs.length := by simpa using h1
      rw [List.getElem_map, List.getElem_map, ← nth_eq _ _ hj, rd_ints (hrow j hj), nth_eq]
  have hx : ∀ x, x ∈ vs.map toSv → ∃ j, j < vs.length ∧ x = toSv (nth vs j) := fun x hx => by
    obtain ⟨y, hy, rfl⟩ := List.mem_map.1 hx
    obtain ⟨j, hj, e⟩ := List.mem_iff_getElem.1 hy
    exact ⟨j, hj, by rw [nth_eq _ _ hj, e]⟩
  have hfl := cinv_flat hinv
  have h := parts_any (vs := vs.map toSv) (R := rdC w) (vl := vl) (H := H) hf (by
      have ha := hst.ol.arr sle_len
      rw [List.length_map]
      refine ha.congr fun i j hi hj => ?_
      rw [show j = 0 by omega, hnm i hi]
      rfl) (fun x hxm => by
      obtain ⟨j, hj, rfl⟩ := hx x hxm
      rw [rd_ints (hrow j hj)]
      exact hrow j hj) hH hHl (by rw [List.length_map]; omega) (by omega) (fun x hxm b hb => by
      obtain ⟨j, hj, rfl⟩ := hx x hxm
      rw [rd_ints (hrow j hj)] at hb
      rw [hHl]
      exact hinv.bnd j (by omega) b hb) hn (by
      have e : ((vs.map toSv).map fun x => sumH H (rdC w x)) = s.ls.map (sumH H) := by rw [← hR, List.map_map, List.map_map, List.map_map]; rfl
      rw [e, sumH_flatten]
      exact tot) (by rw [hR]; have := hfl.2.2; omega) (fun i j hi hj hij n1 n2 e => by
      rw [List.length_map] at hi hj
      rw [hnm i hi, rd_ints (hrow i hi)] at n1 e
      rw [hnm j hj, rd_ints (hrow j hj)] at n2 e
      have m1 := hdC_mem n1
      have m2 := hdC_mem n2
      rw [← e] at m2
      have e1 := hinv.uniq (by omega) m1
      have e2 := hinv.uniq (by omega) m2
      omega)
  rw [hR] at h
  exact h
theorem chSt_below {w w' : World} {B g : Nat} {T tI tC : TypeId} {vo vl : Value} {vs : List Sle} {s : Cs} (h : ChSt w B g T tI tC vo vl vs s) (hb : Below w.heap.size w w') : ChSt w' B g T tI tC vo vl vs s :=
  h.only (S := fun b => w.heap.size ≤ b) ⟨hb.os, hb.tape, hb.output, hb.size, fun b _ hn => hb.block b (by omega)⟩ (by have := h.blk.lt; omega) fun b q => by have := h.foot q; omega
theorem fit_fnc {f : Fl} (h : flowFit f = true) {j : Nat} (hj : j < f.Blocks.length) : 0 ≤ fnc f j ∧ fnc f j < f.Firsts.length := by
  unfold flowFit at h
  simp only [Bool.not_eq_true', Bool.or_eq_false_iff] at h
  have h1 := anyN_false h.1 j hj
  unfold fitBad at h1
  simp only [decide_eq_false_iff_not] at h1
  omega
theorem heat_bd {n : Nat} {l : List Ed} (h : ∀ e, e ∈ l → EdOk n e) {j : Nat} (hj : j < n) : 0 ≤ nth (heatL n l) j ∧ nth (heatL n l) j ≤ 1073741824 * (l.length : Int) := by
  have e : sumH (heatL n l) [(j : Int)] = nth (heatL n l) j := by
    show nth (heatL n l) (j : Int).toNat + 0 = _
    rw [Int.toNat_natCast, Int.add_zero]
  rw [← e, sumH_heat h [(j : Int)] (fun b hb => by simp only [List.mem_singleton] at hb; omega)]
  exact ⟨heatR_nonneg _ _ fun e he => (h e he).2.2.1, heatR_le _ (by simp) l h⟩
/-- the memory of place.Order in its second loop -/
def Ord2 (f : Fl) (OE : List Ed) (B g hk ob : Nat) (vo vl ve : Value) (w2 : World) (k kh : Nat) (vs : List Sle) (wr : World) : Prop :=
  ChSt wr B g 41 3 24 vo vl vs (chL f (OE.take k)) ∧ Own wr hk 3 1 ci (.slice (some ⟨hk, 0, none⟩) f.Blocks.length f.Blocks.length) (heatL f.Blocks.length (OE.take kh)) ∧ Own wr ob 44 3 cEd ve OE ∧ (∀ b, ve.ownBlock = some b → ¬ ChF vo vl vs b) ∧ Only (fun b => b = g ∨ b = hk ∨ B ≤ b) w2 wr
theorem Ord2.keep {f : Fl} {OE : List Ed} {B g hk ob : Nat} {vo vl ve : Value} {w2 : World} {k kh : Nat} {vs : List Sle} {wr w' : World} (h : Ord2 f OE B g hk ob vo vl ve w2 k kh vs wr) (hk' : Keeps wr w') : Ord2 f OE B g hk ob vo vl ve w2 k kh vs w' :=
  ⟨h.1.keep hk', h.2.1.keep hk', h.2.2.1.keep hk', h.2.2.2.1, h.2.2.2.2.trans (hk'.only _)⟩
theorem Ord2.heat {f : Fl} {OE : List Ed} {B g hk ob : Nat} {vo vl ve : Value} {w2 : World} {k : Nat} {vs : List Sle} {wr : World} (h : Ord2 f OE B g hk ob vo vl ve w2 k k vs wr) (hkB : hk < B) (hgk : g < hk) (hob : B ≤ ob) (hk2 : k < OE.length) {eF : Nat} (hF : (nth OE k).From = eF) (hFn : eF < f.Blocks.length) :
    wr.cell? ⟨hk, eF, none⟩ = some (.int .i64 (nth (heatL f.Blocks.length (OE.take k)) eF)) ∧ wr.frozen? ⟨hk, eF, none⟩ = false ∧ hk < wr.heap.size ∧
      Ord2 f OE B g hk ob vo vl ve w2 k (k + 1) vs (wr.setCell ⟨hk, eF, none⟩ (.int .i64 (nth (heatL f.Blocks.length (OE.take k)) eF + (nth OE k).Count))) := by
  obtain ⟨h1, h2, h3, h4, h5⟩ := h
  obtain ⟨q, cap, e, -, -, -, hq, hc, hf, hs⟩ := own_set1 (h := fun x : Int => Value.int .i64 x) h2 (i := eF) (by rw [heatL_len]; exact hFn)
  obtain rfl : q = hk := by injection e with e1 e2 e3; injection e1 with e1; injection e1 with e1; exact e1.symm
  have on : Only (fun b => b = q) wr (wr.setCell ⟨q, eF, none⟩ (.int .i64 (nth (heatL f.Blocks.length (OE.take k)) eF + (nth OE k).Count))) := Only.set _ _ _ _ rfl
  refine ⟨hc eF (by rw [heatL_len]; exact hFn), hf eF, hq, h1.only on (by omega) (fun b hb e => by have := h1.foot hb; omega), ?_, Own.only on h3 (fun b hb e => by have := h3.row b hb; omega), h4, h5.trans (on.mono fun b e => Or.inr (Or.inl e))⟩
  have e2 : heatL f.Blocks.length (OE.take (k + 1)) = (heatL f.Blocks.length (OE.take k)).set eF (nth (heatL f.Blocks.length (OE.take k)) eF + (nth OE k).Count) := by
    rw [take_succ_nth _ _ hk2, heatL_snoc]
    unfold heatStep
    rw [hF, Int.toNat_natCast]
  rw [e2]
  exact hs _
theorem Ord2.join {f : Fl} {OE : List Ed} {B g hk ob : Nat} {vo vl ve : Value} {w2 : World} {k : Nat} {vs : List Sle} {wr w' : World} {s' : Cs} (h : Ord2 f OE B g hk ob vo vl ve w2 k (k + 1) vs wr) (hkB : hk < B) (hj : Joined wr B g vo vl vs s' w') (hs : chL f (OE.take (k + 1)) = s') :
    ∃ vs', Ord2 f OE B g hk ob vo vl ve w2 (k + 1) (k + 1) vs' w' := by
  obtain ⟨h1, h2, h3, h4, h5⟩ := h
  obtain ⟨vs', j1, j2, j3⟩ := hj
  refine ⟨vs', by rw [hs]; exact j1, Own.only j2 h2 (fun b hb e => ?_), Own.only j2 h3 h4, fun b hb e => ?_, h5.trans (j2.mono fun b e => Or.inr (Or.inr (h1.foot e).1))⟩
  · have e1 : hk = b := Option.some.inj hb
    have := (h1.foot e).1
    omega
  · rcases j3 b e with p | p
    · exact h4 b hb p
    · have := own_lt' h3 hb; omega
theorem Ord2.same {f : Fl} {OE : List Ed} {B g hk ob : Nat} {vo vl ve : Value} {w2 : World} {k : Nat} {vs : List Sle} {wr w' : World} (h : Ord2 f OE B g hk ob vo vl ve w2 k (k + 1) vs wr) (hs : chL f (OE.take (k + 1)) = chL f (OE.take k)) (hk' : Keeps wr w') : Ord2 f OE B g hk ob vo vl ve w2 (k + 1) (k + 1) vs w' := by
  have z := h.keep hk'
  unfold Ord2 at z ⊢
  rw [hs]
  exact z
theorem order_any {f : Fl} {l : List Ed} {vf vl : Value} {w : World} (hf : FlowAt w vf f) (hl : Edges w vl l) (hnb : f.Blocks.length ≤ 1073741824) (hnf : f.Firsts.length ≤ 1073741824) (hne : l.length ≤ 1073741824) :
    Calls Try.prog 5 #[vf, vl] w (GivesN (fun v w' => PartsAt w' v (orderS f l)) (orderE f l) w) := by
  have HFL := Lib.hid hf
  have HL := Lib.hid hl
  obtain ⟨v0, v1, v2, rfl, ⟨cv, av, lv, ⟨ao, cap, rfl, b1, b2, -, b3⟩, -⟩, ⟨tv, ⟨tao, tcap, rfl, -⟩, -⟩, hF⟩ := hf
  obtain ⟨fao, fcap, rfl, f1, f2, -, f3⟩ := hF
  obtain ⟨lao, lcap, rfl, l1, l2, -, l3⟩ := hl
  unfold maxLen at b2 f2 l2
  have CHK : ∀ w', Keeps w w' → Calls Try.prog 11 #[.agg #[.slice ao f.Blocks.length cap, .slice tao f.Tables.length tcap, .slice fao f.Firsts.length fcap]] w' fun e w'' => e = .returned (.int .i64 (fitErr f)) ∧ Keeps w' w'' := fun w' hk => check_any _ f w' (HFL.out.keep hk)
  have CHE : ∀ w', Keeps w w' → Calls Try.prog 12 #[.slice lao l.length lcap, .int .i64 (f.Blocks.length : Int)] w' fun e w'' => e = .returned (.int .i64 (edgesGo (f.Blocks.length : Int) l l.length 0)) ∧ Keeps w' w'' := fun w' hk => checkEdges_any _ l _ w' (Arr.keep HL.out hk)
  obtain ⟨W, hW, hBX, hk0⟩ : ∃ W, W = w.alloc (.cells #[.slice ao f.Blocks.length cap, .slice tao f.Tables.length tcap, .slice fao f.Firsts.length fcap] 26) ∧ Blk W w.heap.size (.cells #[.slice ao f.Blocks.length cap, .slice tao f.Tables.length tcap, .slice fao f.Firsts.length fcap] 26) ∧ Keeps w W := ⟨_, rfl, Blk.top _ _, (Keeps.refl _).alloc _⟩
  have HCHK := Lib.hid CHK
  have HCHE := Lib.hid CHE
  clear CHK CHE
  obtain ⟨fb, hfb⟩ : ∃ fb, fb = w.heap.size := ⟨_, rfl⟩
  rw [← hfb] at hBX
  have x0 := hBX.cell (j := 0) rfl
  have x1 := hBX.cell (j := 1) rfl
  have x2 := hBX.cell (j := 2) rfl
  have hxl := hBX.lt
  have hfw : w.heap.size ≤ fb := by omega
  have HW := Lib.hid hW
  have HBX := Lib.hid hBX
  have HK0 := Lib.hid hk0
  have HFB := Lib.hid hfb
  clear hW hBX hk0
  go_enter Try.func5, Try.ntmps5
  go_upto_region 1 with fail
  rw [← HW.out]
  rw [← hfb]
  clear hfb
  by_cases hff : flowFit f = true
  case neg =>
    have hE : orderE f l = 8 := by unfold orderE; rw [if_neg hff]
    have hS : orderS f l = [] := by unfold orderS; rw [if_neg (by rw [hE]; decide)]
    have hfe : fitErr f = 8 := by unfold fitErr; rw [if_neg hff]
    have HE := Lib.hid hE
    have HS := Lib.hid hS
    rw [hfe] at HCHK
    clear hE hS hfe hff
    go_wp2_with (go_at_call 11; refine (HCHK.out _ (HK0.out.trans (by repeat (with_reducible (first | assumption | exact Keeps.refl _ | refine Keeps.alloc ?_ _ | refine Keeps.drew ?_ | refine Keeps.drewN ?_ _))))).mono ?_; rintro e wa ⟨rfl, hka⟩)
    refine bodyPost_ret (results_tmp2 rfl _ _ _) rfl ?_
    exact ⟨.slice none 0 0, by rw [HE.out]; rfl, by rw [HS.out]; exact partsAt_nil _, HK0.out.trans (Keeps.trans (by repeat (with_reducible (first | assumption | exact Keeps.refl _ | refine Keeps.alloc ?_ _ | refine Keeps.drew ?_ | refine Keeps.drewN ?_ _))) hka)⟩
  case pos =>
    have hfe : fitErr f = 0 := by unfold fitErr; rw [if_pos hff]
    rw [hfe] at HCHK
    have hE : orderE f l = edgesGo (f.Blocks.length : Int) l l.length 0 := by unfold orderE; rw [if_pos hff]
    have HFF := Lib.hid hff
    clear hfe hff
    obtain ⟨ee, hee⟩ : ∃ ee, ee = edgesGo (f.Blocks.length : Int) l l.length 0 := ⟨_, rfl⟩
    rw [← hee] at HCHE hE
    have HE := Lib.hid hE
    have HEE := Lib.hid hee
    clear hE hee
    go_upto_region 4 with (go_at_call 11; refine (HCHK.out _ (HK0.out.trans (by repeat (with_reducible (first | assumption | exact Keeps.refl _ | refine Keeps.alloc ?_ _ | refine Keeps.drew ?_ | refine Keeps.drewN ?_ _))))).mono ?_; rintro e wa ⟨rfl, hka⟩)
    have y0 := hka.cell x0
    have y1 := hka.cell x1
    have y2 := hka.cell x2
    have HKA := Lib.hid (HK0.out.trans (show Keeps W wa from Keeps.trans (by repeat (with_reducible (first | assumption | exact Keeps.refl _ | refine Keeps.alloc ?_ _ | refine Keeps.drew ?_ | refine Keeps.drewN ?_ _))) hka))
    have HKW := Lib.hid (show Keeps W wa from Keeps.trans (by repeat (with_reducible (first | assumption | exact Keeps.refl _ | refine Keeps.alloc ?_ _ | refine Keeps.drew ?_ | refine Keeps.drewN ?_ _))) hka)
    clear hka
    by_cases hee0 : ee = 0
    case neg =>
      have te : (ee != 0) = true := by simpa using hee0
      have hS : orderS f l = [] := by unfold orderS; rw [if_neg (by rw [HE.out]; exact hee0)]
      have HS := Lib.hid hS
      clear hS hee0
      go_wp2_with (go_at_call 12; refine (HCHE.out _ (HKA.out.trans (by repeat (with_reducible (first | assumption | exact Keeps.refl _ | refine Keeps.alloc ?_ _ | refine Keeps.drew ?_ | refine Keeps.drewN ?_ _))))).mono ?_; rintro e wb ⟨rfl, hkb⟩)
      refine bodyPost_ret (results_tmp2 rfl _ _ _) rfl ?_
      exact ⟨.slice none 0 0, by rw [HE.out]; rfl, by rw [HS.out]; exact partsAt_nil _, HKA.out.trans (Keeps.trans (by repeat (with_reducible (first | assumption | exact Keeps.refl _ | refine Keeps.alloc ?_ _ | refine Keeps.drew ?_ | refine Keeps.drewN ?_ _))) hkb)⟩
    case pos =>
      subst hee0
      have hS : orderS f l = partsC f (chL f (oftenL l)).ls (heatL f.Blocks.length (oftenL l)) := by unfold orderS; rw [if_pos HE.out]
      have HS := Lib.hid hS
      clear hS
      go_upto_region 7 with (go_at_call 12; refine (HCHE.out _ (HKA.out.trans (by repeat (with_reducible (first | assumption | exact Keeps.refl _ | refine Keeps.alloc ?_ _ | refine Keeps.drew ?_ | refine Keeps.drewN ?_ _))))).mono ?_; rintro e wb ⟨rfl, hkb⟩)
      have z0 := hkb.cell y0
      have z1 := hkb.cell y1
      have z2 := hkb.cell y2
      have HKB := Lib.hid (HKA.out.trans hkb)
      have HKWB := Lib.hid (HKW.out.trans hkb)
      have hlb : fb < wb.heap.size := lt_of_cell z0
      clear hkb y0 y1 y2 x0 x1 x2
      obtain ⟨ti, hti, htz, hts, htb⟩ := info_parts info_int
      go_upto_region 9 with (at_make; refine wpList_make_full _ rfl _ _ 24 rfl (wb.heap.size + 1) 3 ti (.int .i64 0) 1 Try.underlying24 hti htz hts .i64 .i64 _ _ f.Blocks.length rfl rfl rfl rfl (by rw [htb]; omega) (by unfold maxLen; omega) (by rw [sz_alloc]; omega) ?_; intro w2 hown2 hgr2)
      obtain ⟨g, hg⟩ : ∃ g, g = wb.heap.size := ⟨_, rfl⟩
      obtain ⟨hk, hhk⟩ : ∃ hk, hk = wb.heap.size + 1 := ⟨_, rfl⟩
      rw [← hhk, ← hg]
      rw [← hhk] at hown2
      rw [show (wb.alloc (.cells #[.slice none 0 0, .slice none 0 0] 41)).heap.size = hk by rw [sz_alloc]; exact hhk.symm] at hown2
      have k1 : Keeps (wb.alloc (.cells #[.slice none 0 0, .slice none 0 0] 41)) w2 := below_grown hgr2 (Nat.le_refl _) fun q e => by cases e
      have hBg : Blk w2 g (.cells #[.slice none 0 0, .slice none 0 0] 41) := (Blk.top' wb _ hg).keep k1
      have k2 : Keeps wb w2 := ((Keeps.refl wb).alloc _).trans k1
      have hkl : hk < w2.heap.size := own_lt' (own_made hown2) rfl
      have hgk : g < hk := by omega
      have hfg : fb < g := by omega
      have hwg : w.heap.size ≤ g := by omega
      have HHEAT := Lib.hid (own_made hown2)
      have HK2 := Lib.hid (HKB.out.trans k2)
      have HKW2 := Lib.hid (HKWB.out.trans k2)
      obtain ⟨B, hB⟩ : ∃ B, B = w2.heap.size := ⟨_, rfl⟩
      have hkB : hk < B := by omega
      have HB := Lib.hid hB
      have hst0 : ChSt w2 B g 41 3 24 (.slice none 0 0) (.slice none 0 0) [] (cs0 0) :=
        ⟨hBg, Own.nil _ _ _ _ _, Own.nil _ _ _ _ _, rfl, fun j h => absurd h (Nat.not_lt_zero _), by omega, fun b h => by (cases h), fun j b h => absurd h (Nat.not_lt_zero _), fun i j b h => absurd h (Nat.not_lt_zero _)⟩
      have HST0 := Lib.hid hst0
      clear hg hhk hown2 hgr2 k1 hBg k2 hkl hB hst0 hti htz hts htb z0 z1 z2 hlb
      have z0 := (HBX.out.keep HKW2.out).cell (j := 0) rfl
      have z1 := (HBX.out.keep HKW2.out).cell (j := 1) rfl
      have z2 := (HBX.out.keep HKW2.out).cell (j := 2) rfl
      go_wp2_with fail
      go_loopw [36] (fun s36 wr => ∃ (i : Nat) (vo vl : Value) (vs : List Sle), i ≤ f.Blocks.length ∧ s36 = .int .i64 i ∧ Hid (ChSt wr B g 41 3 24 vo vl vs (cs0 i)) ∧ Hid (Only (fun b => b = g ∨ B ≤ b) w2 wr)) (fun s36 _ => f.Blocks.length - (intOf s36).toNat)
      case atStart => exact ⟨0, _, _, [], Nat.zero_le _, rfl, HST0, Lib.hid (Only.refl _ _)⟩
      case round =>
        obtain ⟨i, vo, vl, vs, hi, rfl, HC, HO⟩ := hrel
        by_cases hlt : i < f.Blocks.length
        · have hltz : (i : Int) < (f.Blocks.length : Int) := by omega
          obtain ⟨OF, hOF⟩ : ∃ OF, OF = (cs0 i).of := ⟨_, rfl⟩
          have HOF := Lib.hid hOF
          have hOFl : OF.length ≤ 1073741824 := by rw [hOF]; simp [cs0]; omega
          have hvs : vs.length ≤ 1073741824 := by rw [HC.out.len]; simp [cs0]; omega
          have hoo := HC.out.oo
          rw [← hOF] at hoo
          have hol := HC.out.ol
          obtain ⟨ao1, co1, eo1⟩ := own_form' hoo
          obtain ⟨al1, cl1, el1⟩ := own_form' hol
          subst eo1 el1
          have g0 := HC.out.blk.cell (j := 0) rfl
          have g1 := HC.out.blk.cell (j := 1) rfl
          have fz0 := HC.out.blk.thawed 0
          have fz1 := HC.out.blk.thawed 1
          have hgl := HC.out.blk.lt
          have hBw : B ≤ wr.heap.size := by have := HO.out.size; have := HB.out; omega
          have HOO := Lib.hid hoo
          have HOL := Lib.hid hol
          clear hOF hoo hol
          go_upto_region 12 with fail
          have hvob : ∀ b, (Value.slice ao1 OF.length co1).ownBlock = some b → b < wr.heap.size := fun b q => own_lt' HOO.out q
          have HVOB := Lib.hid hvob
          clear hvob
          have hal0 : ∀ a b c, (((wr.alloc a).alloc b).alloc c).cell? ⟨g, 0, none⟩ = some (.slice ao1 OF.length co1) := fun a b c => Keeps.cell ((((Keeps.refl wr).alloc a).alloc b).alloc c) g0
          have hal1 : ∀ a b c, (((wr.alloc a).alloc b).alloc c).cell? ⟨g, 1, none⟩ = some (.slice al1 vs.length cl1) := fun a b c => Keeps.cell ((((Keeps.refl wr).alloc a).alloc b).alloc c) g1
          refine wp_region_head_tail (S := fun w' => w'.cell? ⟨g, 0, none⟩ = some (.slice ao1 OF.length co1) ∧ w'.cell? ⟨g, 1, none⟩ = some (.slice al1 vs.length cl1)) 17 1 (v := .pointer (some ⟨g, 0, none⟩)) (by kernel_rfl) rfl (by kernel_rfl) (by kernel_rfl) (by kernel_rfl) (by decide) (fun _ _ _ h => h) (Or.inl ⟨by rfl, fun w => by rfl⟩) (by kernel_rfl) (by kernel_rfl) (by kernel_rfl) (by decide) (by kernel_rfl) ?hS (fun hHeld => ?_)
          case hS => go_keep
          simp only [List.take_succ_cons, List.take_zero, List.drop_succ_cons, List.drop_zero, List.getElem_toArray, List.getElem_cons_succ, List.getElem_cons_zero]
          try simp only [Act.put, List.setIfInBounds_toArray, List.set_cons_zero, List.set_cons_succ]
          refine wpAnyH_take (i := 0) (oi := ?o1) (v := ?v1) ?h1 ?a1 ?b1 ?c1 ?q1 (Or.inl ⟨?w1, ?y1⟩) hHeld ?r1
          case h1 => (simp only [List.getElem?_toArray, List.getElem?_cons_zero]; try rfl)
          case a1 => kernel_rfl
          case b1 => kernel_rfl
          case c1 => kernel_rfl
          case q1 => exact fun _ _ _ h => h
          case w1 => rfl
          case y1 =>
            intro w hSw
            (try dsimp only at hSw)
            go_simp
            try with_reducible rfl
          try simp only [Act.put, List.setIfInBounds_toArray, List.set_cons_zero, List.set_cons_succ]
          refine wpAnyH_take (i := 2) (oi := ?o2) (v := ?v2) ?h2 ?a2 ?b2 ?c2 ?q2 (Or.inl ⟨?w2, ?y2⟩) hHeld ?r2
          case h2 => (simp only [List.getElem?_toArray, List.getElem?_cons_zero, List.getElem?_cons_succ]; try rfl)
          case a2 => kernel_rfl
          case b2 => kernel_rfl
          case c2 => kernel_rfl
          case q2 => exact fun _ _ _ h => h
          case w2 => rfl
          case y2 =>
            intro w hSw
            (try dsimp only at hSw)
            go_simp
            try with_reducible rfl
          try simp only [Act.put, List.setIfInBounds_toArray, List.set_cons_zero, List.set_cons_succ]
          refine wpAnyH_take (i := 3) (oi := ?o3) (v := ?v3) ?h3 ?a3 ?b3 ?c3 ?q3 (Or.inl ⟨?w3, ?y3⟩) hHeld ?r3
          case h3 => (simp only [List.getElem?_toArray, List.getElem?_cons_zero, List.getElem?_cons_succ]; try rfl)
          case a3 => kernel_rfl
          case b3 => kernel_rfl
          case c3 => kernel_rfl
          case q3 => exact fun _ _ _ h => h
          case w3 => rfl
          case y3 =>
            intro w hSw
            (try dsimp only at hSw)
            go_simp
            try with_reducible rfl
          try simp only [Act.put, List.setIfInBounds_toArray, List.set_cons_zero, List.set_cons_succ]
          refine wpAnyH_take (i := 4) (oi := ?o4) (v := ?v4) ?h4 ?a4 ?b4 ?c4 ?q4 (Or.inl ⟨?w4, ?y4⟩) hHeld ?r4
          case h4 => (simp only [List.getElem?_toArray, List.getElem?_cons_zero, List.getElem?_cons_succ]; try rfl)
          case a4 => kernel_rfl
          case b4 => kernel_rfl
          case c4 => kernel_rfl
          case q4 => exact fun _ _ _ h => h
          case w4 => rfl
          case y4 =>
            intro w hSw
            (try dsimp only at hSw)
            go_simp
            try with_reducible rfl
          try simp only [Act.put, List.setIfInBounds_toArray, List.set_cons_zero, List.set_cons_succ]
          refine wpAnyH_take (i := 5) (oi := ?o5) (v := ?v5) ?h5 ?a5 ?b5 ?c5 ?q5 (Or.inl ⟨?w5, ?y5⟩) hHeld ?r5
          case h5 => (simp only [List.getElem?_toArray, List.getElem?_cons_zero, List.getElem?_cons_succ]; try rfl)
          case a5 => kernel_rfl
          case b5 => kernel_rfl
          case c5 => kernel_rfl
          case q5 => exact fun _ _ _ h => h
          case w5 => rfl
          case y5 =>
            intro w hSw
            (try dsimp only at hSw)
            go_simp
            try with_reducible rfl
          try simp only [Act.put, List.setIfInBounds_toArray, List.set_cons_zero, List.set_cons_succ]
          refine wpAnyH_take (i := 6) (oi := ?o6) (v := ?v6) ?h6 ?a6 ?b6 ?c6 ?q6 (Or.inl ⟨?w6, ?y6⟩) hHeld ?r6
          case h6 => (simp only [List.getElem?_toArray, List.getElem?_cons_zero, List.getElem?_cons_succ]; try rfl)
          case a6 => kernel_rfl
          case b6 => kernel_rfl
          case c6 => kernel_rfl
          case q6 => exact fun _ _ _ h => h
          case w6 => rfl
          case y6 =>
            intro w hSw
            (try dsimp only at hSw)
            go_simp
            try with_reducible rfl
          try simp only [Act.put, List.setIfInBounds_toArray, List.set_cons_zero, List.set_cons_succ]
          refine wpAnyH_take (i := 9) (oi := ?o7) (v := ?v7) ?h7 ?a7 ?b7 ?c7 ?q7 (Or.inl ⟨?w7, ?y7⟩) hHeld ?r7
          case h7 => (simp only [List.getElem?_toArray, List.getElem?_cons_zero, List.getElem?_cons_succ]; try rfl)
          case a7 => kernel_rfl
          case b7 => kernel_rfl
          case c7 => kernel_rfl
          case q7 => exact fun _ _ _ h => h
          case w7 => rfl
          case y7 =>
            intro w hSw
            (try dsimp only at hSw)
            go_simp
            try with_reducible rfl
          try simp only [Act.put, List.setIfInBounds_toArray, List.set_cons_zero, List.set_cons_succ]
          refine wpAnyH_take (i := 10) (oi := ?o8) (v := ?v8) ?h8 ?a8 ?b8 ?c8 ?q8 (Or.inl ⟨?w8, ?y8⟩) hHeld ?r8
          case h8 => (simp only [List.getElem?_toArray, List.getElem?_cons_zero, List.getElem?_cons_succ]; try rfl)
          case a8 => kernel_rfl
          case b8 => kernel_rfl
          case c8 => kernel_rfl
          case q8 => exact fun _ _ _ h => h
          case w8 => rfl
          case y8 =>
            intro w hSw
            (try dsimp only at hSw)
            go_simp
            try with_reducible rfl
          try simp only [Act.put, List.setIfInBounds_toArray, List.set_cons_zero, List.set_cons_succ]
          refine wpAnyH_take (i := 11) (oi := ?o9) (v := ?v9) ?h9 ?a9 ?b9 ?c9 ?q9 (Or.inl ⟨?w9, ?y9⟩) hHeld ?r9
          case h9 => (simp only [List.getElem?_toArray, List.getElem?_cons_zero, List.getElem?_cons_succ]; try rfl)
          case a9 => kernel_rfl
          case b9 => kernel_rfl
          case c9 => kernel_rfl
          case q9 => exact fun _ _ _ h => h
          case w9 => rfl
          case y9 =>
            intro w hSw
            (try dsimp only at hSw)
            go_simp
            try with_reducible rfl
          try simp only [Act.put, List.setIfInBounds_toArray, List.set_cons_zero, List.set_cons_succ]
          refine wpAnyH_take (i := 12) (oi := ?o10) (v := ?v10) ?h10 ?a10 ?b10 ?c10 ?q10 (Or.inl ⟨?w10, ?y10⟩) hHeld ?r10
          case h10 => (simp only [List.getElem?_toArray, List.getElem?_cons_zero, List.getElem?_cons_succ]; try rfl)
          case a10 => kernel_rfl
          case b10 => kernel_rfl
          case c10 => kernel_rfl
          case q10 => exact fun _ _ _ h => h
          case w10 => rfl
          case y10 =>
            intro w hSw
            (try dsimp only at hSw)
            go_simp
            try with_reducible rfl
          try simp only [Act.put, List.setIfInBounds_toArray, List.set_cons_zero, List.set_cons_succ]
          refine wpAnyH_take (i := 13) (oi := ?o11) (v := ?v11) ?h11 ?a11 ?b11 ?c11 ?q11 (Or.inl ⟨?w11, ?y11⟩) hHeld ?r11
          case h11 => (simp only [List.getElem?_toArray, List.getElem?_cons_zero, List.getElem?_cons_succ]; try rfl)
          case a11 => kernel_rfl
          case b11 => kernel_rfl
          case c11 => kernel_rfl
          case q11 => exact fun _ _ _ h => h
          case w11 => rfl
          case y11 =>
            intro w hSw
            (try dsimp only at hSw)
            go_simp
            try with_reducible rfl
          try simp only [Act.put, List.setIfInBounds_toArray, List.set_cons_zero, List.set_cons_succ]
          refine wpAnyH_ready (rs := [7, 14]) (by kernel_rfl) (by simp) ?_
          refine AllReadyH.cons (o := ?o12) ?h12 ?s12 ?m12
          case h12 => (simp only [List.getElem?_toArray, List.getElem?_cons_zero, List.getElem?_cons_succ]; try rfl)
          case s12 =>
            intro K hK
            go_simp
            refine hK.out _ _ ?S12 ?R12
            case S12 => go_keep
            case R12 =>
              clear hHeld
              intro hHeld
              clear hK K
              try simp only [Act.put, List.setIfInBounds_toArray, List.set_cons_zero, List.set_cons_succ]
              refine wpAnyH_ready (rs := [8, 14]) (by kernel_rfl) (by simp) ?_
              refine AllReadyH.cons (o := ?o13) ?h13 ?s13 ?m13
              case h13 => (simp only [List.getElem?_toArray, List.getElem?_cons_zero, List.getElem?_cons_succ]; try rfl)
              case s13 =>
                intro K hK
                refine step_push (by rfl) (.tmp 44) (.tmp 46) 24 (by rfl) Try.underlying24 info_int (by rfl) (by decide) (base := B) (f := ci) (l := OF) (by rfl) (by exact HOO.out.keep (by repeat (with_reducible (first | assumption | exact Keeps.refl _ | refine Keeps.alloc ?_ _ | refine Keeps.drew ?_ | refine Keeps.drewN ?_ _)))) (i : Int) _ _ (by rfl) ?_ ci_len ci_one (by omega) (by unfold maxLen; omega) (by first | omega | ((repeat (first | (simp only [sz_alloc]) | (simp only [sz_drew]) | (simp only [sz_drewN]))); omega)) ?_
                (focus ((repeat (first | (with_reducible assumption) | (refine Blk.top' _ _ ?_; first | (with_reducible rfl) | ((repeat (first | (simp only [sz_alloc]) | (simp only [sz_drew]) | (simp only [sz_drewN]))); done)) | (with_reducible refine blk_alloc ?_ _) | (with_reducible refine blk_drew ?_) | (with_reducible refine blk_drewN ?_ _))); done))
                intro v7 w7 hown7 hbel7 hgr7 hfr7
                obtain ⟨a7, c7, e7⟩ := own_form' hown7
                simp only [List.length_append, List.length_cons, List.length_nil, Nat.zero_add] at e7
                subst e7
                have hs7 : wr.heap.size ≤ w7.heap.size := Nat.le_trans (Keeps.size (show Keeps wr _ from (by repeat (with_reducible (first | assumption | exact Keeps.refl _ | refine Keeps.alloc ?_ _ | refine Keeps.drew ?_ | refine Keeps.drewN ?_ _))))) hgr7.size
                have g07 : w7.cell? ⟨g, 0, none⟩ = some (.slice ao1 OF.length co1) := (Below.cell hbel7 (p := ⟨g, 0, none⟩) (by dsimp only; omega)).trans (Keeps.cell (show Keeps wr _ from (by repeat (with_reducible (first | assumption | exact Keeps.refl _ | refine Keeps.alloc ?_ _ | refine Keeps.drew ?_ | refine Keeps.drewN ?_ _)))) g0)
                have g17 : w7.cell? ⟨g, 1, none⟩ = some (.slice al1 vs.length cl1) := (Below.cell hbel7 (p := ⟨g, 1, none⟩) (by dsimp only; omega)).trans (Keeps.cell (show Keeps wr _ from (by repeat (with_reducible (first | assumption | exact Keeps.refl _ | refine Keeps.alloc ?_ _ | refine Keeps.drew ?_ | refine Keeps.drewN ?_ _)))) g1)
                have hb7 := Blk.below (HC.out.blk.keep (show Keeps wr _ from (by repeat (with_reducible (first | assumption | exact Keeps.refl _ | refine Keeps.alloc ?_ _ | refine Keeps.drew ?_ | refine Keeps.drewN ?_ _))))) hbel7 HC.out.gB
                have hg7 : g < w7.heap.size := hb7.lt
                have HB7 := Lib.hid hb7
                clear hb7
                have hnv7 : ∀ idx, wr.heap.size ≤ idx → some idx ≠ (Value.slice ao1 OF.length co1).ownBlock := (fun idx hx e => by have := HVOB.out idx e.symm; omega)
                have HOL7 := Lib.hid ((HOL.out.keep (show Keeps wr _ from (by repeat (with_reducible (first | assumption | exact Keeps.refl _ | refine Keeps.alloc ?_ _ | refine Keeps.drew ?_ | refine Keeps.drewN ?_ _))))).other hgr7 (fun b q e => HC.out.ne1 b e.symm q))
                refine hK.out _ _ ?S13 ?R13
                case S13 => exact ⟨g07, g17⟩
                case R13 =>
                  clear hHeld
                  intro hHeld
                  clear hK K
                  try simp only [Act.put, List.setIfInBounds_toArray, List.set_cons_zero, List.set_cons_succ]
                  refine wpAnyH_ready (rs := [14]) (by kernel_rfl) (by simp) ?_
                  refine AllReadyH.cons (o := ?o14) ?h14 ?s14 ?m14
                  case h14 => (simp only [List.getElem?_toArray, List.getElem?_cons_zero, List.getElem?_cons_succ]; try rfl)
                  case s14 =>
                    intro K hK
                    go_simp
                    refine hK.out _ _ ?S14 ?R14
                    case S14 => go_keep
                    case R14 =>
                      clear hHeld
                      intro hHeld
                      clear hK K
                      try simp only [Act.put, List.setIfInBounds_toArray, List.set_cons_zero, List.set_cons_succ]
                      refine wpAnyH_ready (rs := [15]) (by kernel_rfl) (by simp) ?_
                      refine AllReadyH.cons (o := ?o15) ?h15 ?s15 ?m15
                      case h15 => (simp only [List.getElem?_toArray, List.getElem?_cons_zero, List.getElem?_cons_succ]; try rfl)
                      case s15 =>
                        intro K hK
                        go_simp
                        refine hK.out _ _ ?S15 ?R15
                        case S15 => go_keep
                        case R15 =>
                          clear hHeld
                          intro hHeld
                          clear hK K
                          try simp only [Act.put, List.setIfInBounds_toArray, List.set_cons_zero, List.set_cons_succ]
                          refine wpAnyH_ready (rs := [16]) (by kernel_rfl) (by simp) ?_
                          refine AllReadyH.cons (o := ?o16) ?h16 ?s16 ?m16
                          case h16 => (simp only [List.getElem?_toArray, List.getElem?_cons_zero, List.getElem?_cons_succ]; try rfl)
                          case s16 =>
                            intro K hK
                            refine step_push (by rfl) (.tmp 51) (.tmp 54) 23 (by rfl) Try.underlying23 info_ints (by rfl) (by decide) (base := B) (f := sle) (l := vs) (by rfl) (by exact HOL7.out.keep (by repeat (with_reducible (first | assumption | exact Keeps.refl _ | refine Keeps.alloc ?_ _ | refine Keeps.drew ?_ | refine Keeps.drewN ?_ _)))) ⟨some ⟨w7.heap.size, 0, none⟩, 1, 1⟩ _ _ (by rfl) ?_ sle_len sle_one (by omega) (by unfold maxLen; omega) (by first | omega | ((repeat (first | (simp only [sz_alloc]) | (simp only [sz_drew]) | (simp only [sz_drewN]))); omega)) ?_
                            (focus ((repeat (first | (with_reducible assumption) | (refine Blk.top' _ _ ?_; first | (with_reducible rfl) | ((repeat (first | (simp only [sz_alloc]) | (simp only [sz_drew]) | (simp only [sz_drewN]))); done)) | (with_reducible refine blk_alloc ?_ _) | (with_reducible refine blk_drew ?_) | (with_reducible refine blk_drewN ?_ _) | ((with_reducible refine Blk.grown ?_ hgr7 (hnv7 _ ?_)); rotate_left; (first | omega | ((repeat (first | (simp only [sz_alloc]) | (simp only [sz_drew]) | (simp only [sz_drewN]))); omega))))); done))
                            intro v8 w8 hown8 hbel8 hgr8 hfr8
                            obtain ⟨a8, c8, e8⟩ := own_form' hown8
                            simp only [List.length_append, List.length_cons, List.length_nil, Nat.zero_add] at e8
                            subst e8
                            have hs8 := hgr8.size
                            have g08 : w8.cell? ⟨g, 0, none⟩ = some (.slice ao1 OF.length co1) := (Below.cell hbel8 (p := ⟨g, 0, none⟩) (by dsimp only; omega)).trans (Keeps.cell (show Keeps w7 _ from (by repeat (with_reducible (first | assumption | exact Keeps.refl _ | refine Keeps.alloc ?_ _ | refine Keeps.drew ?_ | refine Keeps.drewN ?_ _)))) g07)
                            have g18 : w8.cell? ⟨g, 1, none⟩ = some (.slice al1 vs.length cl1) := (Below.cell hbel8 (p := ⟨g, 1, none⟩) (by dsimp only; omega)).trans (Keeps.cell (show Keeps w7 _ from (by repeat (with_reducible (first | assumption | exact Keeps.refl _ | refine Keeps.alloc ?_ _ | refine Keeps.drew ?_ | refine Keeps.drewN ?_ _)))) g17)
                            have hb8 := Blk.below (HB7.out.keep (show Keeps w7 _ from (by repeat (with_reducible (first | assumption | exact Keeps.refl _ | refine Keeps.alloc ?_ _ | refine Keeps.drew ?_ | refine Keeps.drewN ?_ _))))) hbel8 HC.out.gB
                            have hf80 := hb8.thawed 0
                            have hf81 := hb8.thawed 1
                            clear hb8
                            have hg8 : g < w8.heap.size := lt_of_cell g08
                            obtain ⟨rb, hrb⟩ : ∃ rb, rb = w7.heap.size := ⟨_, rfl⟩
                            have HRB := Lib.hid hrb
                            clear hrb
                            refine hK.out _ _ ?S16 ?R16
                            case S16 => exact ⟨g08, g18⟩
                            case R16 =>
                              clear hHeld
                              intro hHeld
                              clear hK K
                              try simp only [Act.put, List.setIfInBounds_toArray, List.set_cons_zero, List.set_cons_succ]
                              refine wpAnyH_done (by kernel_rfl) ?_ _
                              as_aux_lemma =>
                                dsimp only [TailQ]
                                go_wp2_with fail
                                go_roundw
                                case rel =>
                                  have hrbE := HRB.out
                                  subst hrbE
                                  have CG := chSt_grow (x := (i : Int)) HC.out hBw (by rw [← HOF.out]; exact hown7) hgr7 hfr7 hown8 hgr8 hfr8 (by focus ((repeat (first | (with_reducible assumption) | (refine Blk.top' _ _ ?_; first | (with_reducible rfl) | ((repeat (first | (simp only [sz_alloc]) | (simp only [sz_drew]) | (simp only [sz_drewN]))); done)) | (with_reducible refine blk_alloc ?_ _) | (with_reducible refine blk_drew ?_) | (with_reducible refine blk_drewN ?_ _) | ((with_reducible refine Blk.grown ?_ hgr7 (hnv7 _ ?_)); rotate_left; (first | omega | ((repeat (first | (simp only [sz_alloc]) | (simp only [sz_drew]) | (simp only [sz_drewN]))); omega))))); done)) (by first | omega | ((repeat (first | (simp only [sz_alloc]) | (simp only [sz_drew]) | (simp only [sz_drewN]))); omega)) (by first | omega | ((repeat (first | (simp only [sz_alloc]) | (simp only [sz_drew]) | (simp only [sz_drewN]))); omega)) (by repeat (with_reducible (first | assumption | exact Keeps.refl _ | refine Keeps.alloc ?_ _ | refine Keeps.drew ?_ | refine Keeps.drewN ?_ _))) (by repeat (with_reducible (first | assumption | exact Keeps.refl _ | refine Keeps.alloc ?_ _ | refine Keeps.drew ?_ | refine Keeps.drewN ?_ _)))
                                  exact ⟨i + 1, .slice a7 (OF.length + 1) c7, .slice a8 (vs.length + 1) c8, vs ++ [⟨some ⟨_, 0, none⟩, 1, 1⟩], by omega, by go_num, Lib.hid (by rw [cs0_succ]; exact CG.1.keep (by repeat (with_reducible (first | assumption | exact Keeps.refl _ | refine Keeps.alloc ?_ _ | refine Keeps.drew ?_ | refine Keeps.drewN ?_ _)))), Lib.hid (HO.out.trans (CG.2.trans (Keeps.only (by repeat (with_reducible (first | assumption | exact Keeps.refl _ | refine Keeps.alloc ?_ _ | refine Keeps.drew ?_ | refine Keeps.drewN ?_ _))) _)))⟩
                                case measure => simp [intOf]; omega
                          exact AllReadyH.nil
                      exact AllReadyH.nil
                  exact AllReadyH.nil
              refine AllReadyH.cons (o := ?o17) ?h17 ?s17 ?m17
              case h17 => (simp only [List.getElem?_toArray, List.getElem?_cons_zero, List.getElem?_cons_succ]; try rfl)
              case s17 =>
                intro K hK
                go_simp
                refine hK.out _ _ ?S17 ?R17
                case S17 => go_keep
                case R17 =>
                  clear hHeld
                  intro hHeld
                  clear hK K
                  try simp only [Act.put, List.setIfInBounds_toArray, List.set_cons_zero, List.set_cons_succ]
                  refine wpAnyH_ready (rs := [8, 15]) (by kernel_rfl) (by simp) ?_
                  refine AllReadyH.cons (o := ?o18) ?h18 ?s18 ?m18
                  case h18 => (simp only [List.getElem?_toArray, List.getElem?_cons_zero, List.getElem?_cons_succ]; try rfl)
                  case s18 =>
                    intro K hK
                    refine step_push (by rfl) (.tmp 44) (.tmp 46) 24 (by rfl) Try.underlying24 info_int (by rfl) (by decide) (base := B) (f := ci) (l := OF) (by rfl) (by exact HOO.out.keep (by repeat (with_reducible (first | assumption | exact Keeps.refl _ | refine Keeps.alloc ?_ _ | refine Keeps.drew ?_ | refine Keeps.drewN ?_ _)))) (i : Int) _ _ (by rfl) ?_ ci_len ci_one (by omega) (by unfold maxLen; omega) (by first | omega | ((repeat (first | (simp only [sz_alloc]) | (simp only [sz_drew]) | (simp only [sz_drewN]))); omega)) ?_
                    (focus ((repeat (first | (with_reducible assumption) | (refine Blk.top' _ _ ?_; first | (with_reducible rfl) | ((repeat (first | (simp only [sz_alloc]) | (simp only [sz_drew]) | (simp only [sz_drewN]))); done)) | (with_reducible refine blk_alloc ?_ _) | (with_reducible refine blk_drew ?_) | (with_reducible refine blk_drewN ?_ _))); done))
                    intro v7 w7 hown7 hbel7 hgr7 hfr7
                    obtain ⟨a7, c7, e7⟩ := own_form' hown7
                    simp only [List.length_append, List.length_cons, List.length_nil, Nat.zero_add] at e7
                    subst e7
                    have hs7 : wr.heap.size ≤ w7.heap.size := Nat.le_trans (Keeps.size (show Keeps wr _ from (by repeat (with_reducible (first | assumption | exact Keeps.refl _ | refine Keeps.alloc ?_ _ | refine Keeps.drew ?_ | refine Keeps.drewN ?_ _))))) hgr7.size
                    have g07 : w7.cell? ⟨g, 0, none⟩ = some (.slice ao1 OF.length co1) := (Below.cell hbel7 (p := ⟨g, 0, none⟩) (by dsimp only; omega)).trans (Keeps.cell (show Keeps wr _ from (by repeat (with_reducible (first | assumption | exact Keeps.refl _ | refine Keeps.alloc ?_ _ | refine Keeps.drew ?_ | refine Keeps.drewN ?_ _)))) g0)
                    have g17 : w7.cell? ⟨g, 1, none⟩ = some (.slice al1 vs.length cl1) := (Below.cell hbel7 (p := ⟨g, 1, none⟩) (by dsimp only; omega)).trans (Keeps.cell (show Keeps wr _ from (by repeat (with_reducible (first | assumption | exact Keeps.refl _ | refine Keeps.alloc ?_ _ | refine Keeps.drew ?_ | refine Keeps.drewN ?_ _)))) g1)
                    have hb7 := Blk.below (HC.out.blk.keep (show Keeps wr _ from (by repeat (with_reducible (first | assumption | exact Keeps.refl _ | refine Keeps.alloc ?_ _ | refine Keeps.drew ?_ | refine Keeps.drewN ?_ _))))) hbel7 HC.out.gB
                    have hg7 : g < w7.heap.size := hb7.lt
                    have HB7 := Lib.hid hb7
                    clear hb7
                    have hnv7 : ∀ idx, wr.heap.size ≤ idx → some idx ≠ (Value.slice ao1 OF.length co1).ownBlock := (fun idx hx e => by have := HVOB.out idx e.symm; omega)
                    have HOL7 := Lib.hid ((HOL.out.keep (show Keeps wr _ from (by repeat (with_reducible (first | assumption | exact Keeps.refl _ | refine Keeps.alloc ?_ _ | refine Keeps.drew ?_ | refine Keeps.drewN ?_ _))))).other hgr7 (fun b q e => HC.out.ne1 b e.symm q))
                    refine hK.out _ _ ?S18 ?R18
                    case S18 => exact ⟨g07, g17⟩
                    case R18 =>
                      clear hHeld
                      intro hHeld
                      clear hK K
                      try simp only [Act.put, List.setIfInBounds_toArray, List.set_cons_zero, List.set_cons_succ]
                      refine wpAnyH_ready (rs := [15]) (by kernel_rfl) (by simp) ?_
                      refine AllReadyH.cons (o := ?o19) ?h19 ?s19 ?m19
                      case h19 => (simp only [List.getElem?_toArray, List.getElem?_cons_zero, List.getElem?_cons_succ]; try rfl)
                      case s19 =>
                        intro K hK
                        go_simp
                        refine hK.out _ _ ?S19 ?R19
                        case S19 => go_keep
                        case R19 =>
                          clear hHeld
                          intro hHeld
                          clear hK K
                          try simp only [Act.put, List.setIfInBounds_toArray, List.set_cons_zero, List.set_cons_succ]
                          refine wpAnyH_ready (rs := [16]) (by kernel_rfl) (by simp) ?_
                          refine AllReadyH.cons (o := ?o20) ?h20 ?s20 ?m20
                          case h20 => (simp only [List.getElem?_toArray, List.getElem?_cons_zero, List.getElem?_cons_succ]; try rfl)
                          case s20 =>
                            intro K hK
                            refine step_push (by rfl) (.tmp 51) (.tmp 54) 23 (by rfl) Try.underlying23 info_ints (by rfl) (by decide) (base := B) (f := sle) (l := vs) (by rfl) (by exact HOL7.out.keep (by repeat (with_reducible (first | assumption | exact Keeps.refl _ | refine Keeps.alloc ?_ _ | refine Keeps.drew ?_ | refine Keeps.drewN ?_ _)))) ⟨some ⟨(wr.heap.size + 1), 0, none⟩, 1, 1⟩ _ _ (by rfl) ?_ sle_len sle_one (by omega) (by unfold maxLen; omega) (by first | omega | ((repeat (first | (simp only [sz_alloc]) | (simp only [sz_drew]) | (simp only [sz_drewN]))); omega)) ?_
                            (focus ((repeat (first | (with_reducible assumption) | (refine Blk.top' _ _ ?_; first | (with_reducible rfl) | ((repeat (first | (simp only [sz_alloc]) | (simp only [sz_drew]) | (simp only [sz_drewN]))); done)) | (with_reducible refine blk_alloc ?_ _) | (with_reducible refine blk_drew ?_) | (with_reducible refine blk_drewN ?_ _) | ((with_reducible refine Blk.grown ?_ hgr7 (hnv7 _ ?_)); rotate_left; (first | omega | ((repeat (first | (simp only [sz_alloc]) | (simp only [sz_drew]) | (simp only [sz_drewN]))); omega))))); done))
                            intro v8 w8 hown8 hbel8 hgr8 hfr8
                            obtain ⟨a8, c8, e8⟩ := own_form' hown8
                            simp only [List.length_append, List.length_cons, List.length_nil, Nat.zero_add] at e8
                            subst e8
                            have hs8 := hgr8.size
                            have g08 : w8.cell? ⟨g, 0, none⟩ = some (.slice ao1 OF.length co1) := (Below.cell hbel8 (p := ⟨g, 0, none⟩) (by dsimp only; omega)).trans (Keeps.cell (show Keeps w7 _ from (by repeat (with_reducible (first | assumption | exact Keeps.refl _ | refine Keeps.alloc ?_ _ | refine Keeps.drew ?_ | refine Keeps.drewN ?_ _)))) g07)
                            have g18 : w8.cell? ⟨g, 1, none⟩ = some (.slice al1 vs.length cl1) := (Below.cell hbel8 (p := ⟨g, 1, none⟩) (by dsimp only; omega)).trans (Keeps.cell (show Keeps w7 _ from (by repeat (with_reducible (first | assumption | exact Keeps.refl _ | refine Keeps.alloc ?_ _ | refine Keeps.drew ?_ | refine Keeps.drewN ?_ _)))) g17)
                            have hb8 := Blk.below (HB7.out.keep (show Keeps w7 _ from (by repeat (with_reducible (first | assumption | exact Keeps.refl _ | refine Keeps.alloc ?_ _ | refine Keeps.drew ?_ | refine Keeps.drewN ?_ _))))) hbel8 HC.out.gB
                            have hf80 := hb8.thawed 0
                            have hf81 := hb8.thawed 1
                            clear hb8
                            have hg8 : g < w8.heap.size := lt_of_cell g08
                            obtain ⟨rb, hrb⟩ : ∃ rb, rb = (wr.heap.size + 1) := ⟨_, rfl⟩
                            have HRB := Lib.hid hrb
                            clear hrb
                            refine hK.out _ _ ?S20 ?R20
                            case S20 => exact ⟨g08, g18⟩
                            case R20 =>
                              clear hHeld
                              intro hHeld
                              clear hK K
                              try simp only [Act.put, List.setIfInBounds_toArray, List.set_cons_zero, List.set_cons_succ]
                              refine wpAnyH_done (by kernel_rfl) ?_ _
                              as_aux_lemma =>
                                dsimp only [TailQ]
                                go_wp2_with fail
                                go_roundw
                                case rel =>
                                  have hrbE := HRB.out
                                  subst hrbE
                                  have CG := chSt_grow (x := (i : Int)) HC.out hBw (by rw [← HOF.out]; exact hown7) hgr7 hfr7 hown8 hgr8 hfr8 (by focus ((repeat (first | (with_reducible assumption) | (refine Blk.top' _ _ ?_; first | (with_reducible rfl) | ((repeat (first | (simp only [sz_alloc]) | (simp only [sz_drew]) | (simp only [sz_drewN]))); done)) | (with_reducible refine blk_alloc ?_ _) | (with_reducible refine blk_drew ?_) | (with_reducible refine blk_drewN ?_ _) | ((with_reducible refine Blk.grown ?_ hgr7 (hnv7 _ ?_)); rotate_left; (first | omega | ((repeat (first | (simp only [sz_alloc]) | (simp only [sz_drew]) | (simp only [sz_drewN]))); omega))))); done)) (by first | omega | ((repeat (first | (simp only [sz_alloc]) | (simp only [sz_drew]) | (simp only [sz_drewN]))); omega)) (by first | omega | ((repeat (first | (simp only [sz_alloc]) | (simp only [sz_drew]) | (simp only [sz_drewN]))); omega)) (by repeat (with_reducible (first | assumption | exact Keeps.refl _ | refine Keeps.alloc ?_ _ | refine Keeps.drew ?_ | refine Keeps.drewN ?_ _))) (by repeat (with_reducible (first | assumption | exact Keeps.refl _ | refine Keeps.alloc ?_ _ | refine Keeps.drew ?_ | refine Keeps.drewN ?_ _)))
                                  exact ⟨i + 1, .slice a7 (OF.length + 1) c7, .slice a8 (vs.length + 1) c8, vs ++ [⟨some ⟨_, 0, none⟩, 1, 1⟩], by omega, by go_num, Lib.hid (by rw [cs0_succ]; exact CG.1.keep (by repeat (with_reducible (first | assumption | exact Keeps.refl _ | refine Keeps.alloc ?_ _ | refine Keeps.drew ?_ | refine Keeps.drewN ?_ _)))), Lib.hid (HO.out.trans (CG.2.trans (Keeps.only (by repeat (with_reducible (first | assumption | exact Keeps.refl _ | refine Keeps.alloc ?_ _ | refine Keeps.drew ?_ | refine Keeps.drewN ?_ _))) _)))⟩
                                case measure => simp [intOf]; omega
                          exact AllReadyH.nil
                      exact AllReadyH.nil
                  refine AllReadyH.cons (o := ?o21) ?h21 ?s21 ?m21
                  case h21 => (simp only [List.getElem?_toArray, List.getElem?_cons_zero, List.getElem?_cons_succ]; try rfl)
                  case s21 =>
                    intro K hK
                    go_simp
                    refine hK.out _ _ ?S21 ?R21
                    case S21 => go_keep
                    case R21 =>
                      clear hHeld
                      intro hHeld
                      clear hK K
                      try simp only [Act.put, List.setIfInBounds_toArray, List.set_cons_zero, List.set_cons_succ]
                      refine wpAnyH_ready (rs := [8]) (by kernel_rfl) (by simp) ?_
                      refine AllReadyH.cons (o := ?o22) ?h22 ?s22 ?m22
                      case h22 => (simp only [List.getElem?_toArray, List.getElem?_cons_zero, List.getElem?_cons_succ]; try rfl)
                      case s22 =>
                        intro K hK
                        refine step_push (by rfl) (.tmp 44) (.tmp 46) 24 (by rfl) Try.underlying24 info_int (by rfl) (by decide) (base := B) (f := ci) (l := OF) (by rfl) (by exact HOO.out.keep (by repeat (with_reducible (first | assumption | exact Keeps.refl _ | refine Keeps.alloc ?_ _ | refine Keeps.drew ?_ | refine Keeps.drewN ?_ _)))) (i : Int) _ _ (by rfl) ?_ ci_len ci_one (by omega) (by unfold maxLen; omega) (by first | omega | ((repeat (first | (simp only [sz_alloc]) | (simp only [sz_drew]) | (simp only [sz_drewN]))); omega)) ?_
                        (focus ((repeat (first | (with_reducible assumption) | (refine Blk.top' _ _ ?_; first | (with_reducible rfl) | ((repeat (first | (simp only [sz_alloc]) | (simp only [sz_drew]) | (simp only [sz_drewN]))); done)) | (with_reducible refine blk_alloc ?_ _) | (with_reducible refine blk_drew ?_) | (with_reducible refine blk_drewN ?_ _))); done))
                        intro v7 w7 hown7 hbel7 hgr7 hfr7
                        obtain ⟨a7, c7, e7⟩ := own_form' hown7
                        simp only [List.length_append, List.length_cons, List.length_nil, Nat.zero_add] at e7
                        subst e7
                        have hs7 : wr.heap.size ≤ w7.heap.size := Nat.le_trans (Keeps.size (show Keeps wr _ from (by repeat (with_reducible (first | assumption | exact Keeps.refl _ | refine Keeps.alloc ?_ _ | refine Keeps.drew ?_ | refine Keeps.drewN ?_ _))))) hgr7.size
                        have g07 : w7.cell? ⟨g, 0, none⟩ = some (.slice ao1 OF.length co1) := (Below.cell hbel7 (p := ⟨g, 0, none⟩) (by dsimp only; omega)).trans (Keeps.cell (show Keeps wr _ from (by repeat (with_reducible (first | assumption | exact Keeps.refl _ | refine Keeps.alloc ?_ _ | refine Keeps.drew ?_ | refine Keeps.drewN ?_ _)))) g0)
                        have g17 : w7.cell? ⟨g, 1, none⟩ = some (.slice al1 vs.length cl1) := (Below.cell hbel7 (p := ⟨g, 1, none⟩) (by dsimp only; omega)).trans (Keeps.cell (show Keeps wr _ from (by repeat (with_reducible (first | assumption | exact Keeps.refl _ | refine Keeps.alloc ?_ _ | refine Keeps.drew ?_ | refine Keeps.drewN ?_ _)))) g1)
                        have hb7 := Blk.below (HC.out.blk.keep (show Keeps wr _ from (by repeat (with_reducible (first | assumption | exact Keeps.refl _ | refine Keeps.alloc ?_ _ | refine Keeps.drew ?_ | refine Keeps.drewN ?_ _))))) hbel7 HC.out.gB
                        have hg7 : g < w7.heap.size := hb7.lt
                        have HB7 := Lib.hid hb7
                        clear hb7
                        have hnv7 : ∀ idx, wr.heap.size ≤ idx → some idx ≠ (Value.slice ao1 OF.length co1).ownBlock := (fun idx hx e => by have := HVOB.out idx e.symm; omega)
                        have HOL7 := Lib.hid ((HOL.out.keep (show Keeps wr _ from (by repeat (with_reducible (first | assumption | exact Keeps.refl _ | refine Keeps.alloc ?_ _ | refine Keeps.drew ?_ | refine Keeps.drewN ?_ _))))).other hgr7 (fun b q e => HC.out.ne1 b e.symm q))
                        refine hK.out _ _ ?S22 ?R22
                        case S22 => exact ⟨g07, g17⟩
                        case R22 =>
                          clear hHeld
                          intro hHeld
                          clear hK K
                          try simp only [Act.put, List.setIfInBounds_toArray, List.set_cons_zero, List.set_cons_succ]
                          refine wpAnyH_ready (rs := [16]) (by kernel_rfl) (by simp) ?_
                          refine AllReadyH.cons (o := ?o23) ?h23 ?s23 ?m23
                          case h23 => (simp only [List.getElem?_toArray, List.getElem?_cons_zero, List.getElem?_cons_succ]; try rfl)
                          case s23 =>
                            intro K hK
                            refine step_push (by rfl) (.tmp 51) (.tmp 54) 23 (by rfl) Try.underlying23 info_ints (by rfl) (by decide) (base := B) (f := sle) (l := vs) (by rfl) (by exact HOL7.out.keep (by repeat (with_reducible (first | assumption | exact Keeps.refl _ | refine Keeps.alloc ?_ _ | refine Keeps.drew ?_ | refine Keeps.drewN ?_ _)))) ⟨some ⟨(wr.heap.size + 1), 0, none⟩, 1, 1⟩ _ _ (by rfl) ?_ sle_len sle_one (by omega) (by unfold maxLen; omega) (by first | omega | ((repeat (first | (simp only [sz_alloc]) | (simp only [sz_drew]) | (simp only [sz_drewN]))); omega)) ?_
                            (focus ((repeat (first | (with_reducible assumption) | (refine Blk.top' _ _ ?_; first | (with_reducible rfl) | ((repeat (first | (simp only [sz_alloc]) | (simp only [sz_drew]) | (simp only [sz_drewN]))); done)) | (with_reducible refine blk_alloc ?_ _) | (with_reducible refine blk_drew ?_) | (with_reducible refine blk_drewN ?_ _) | ((with_reducible refine Blk.grown ?_ hgr7 (hnv7 _ ?_)); rotate_left; (first | omega | ((repeat (first | (simp only [sz_alloc]) | (simp only [sz_drew]) | (simp only [sz_drewN]))); omega))))); done))
                            intro v8 w8 hown8 hbel8 hgr8 hfr8
                            obtain ⟨a8, c8, e8⟩ := own_form' hown8
                            simp only [List.length_append, List.length_cons, List.length_nil, Nat.zero_add] at e8
                            subst e8
                            have hs8 := hgr8.size
                            have g08 : w8.cell? ⟨g, 0, none⟩ = some (.slice ao1 OF.length co1) := (Below.cell hbel8 (p := ⟨g, 0, none⟩) (by dsimp only; omega)).trans (Keeps.cell (show Keeps w7 _ from (by repeat (with_reducible (first | assumption | exact Keeps.refl _ | refine Keeps.alloc ?_ _ | refine Keeps.drew ?_ | refine Keeps.drewN ?_ _)))) g07)
                            have g18 : w8.cell? ⟨g, 1, none⟩ = some (.slice al1 vs.length cl1) := (Below.cell hbel8 (p := ⟨g, 1, none⟩) (by dsimp only; omega)).trans (Keeps.cell (show Keeps w7 _ from (by repeat (with_reducible (first | assumption | exact Keeps.refl _ | refine Keeps.alloc ?_ _ | refine Keeps.drew ?_ | refine Keeps.drewN ?_ _)))) g17)
                            have hb8 := Blk.below (HB7.out.keep (show Keeps w7 _ from (by repeat (with_reducible (first | assumption | exact Keeps.refl _ | refine Keeps.alloc ?_ _ | refine Keeps.drew ?_ | refine Keeps.drewN ?_ _))))) hbel8 HC.out.gB
                            have hf80 := hb8.thawed 0
                            have hf81 := hb8.thawed 1
                            clear hb8
                            have hg8 : g < w8.heap.size := lt_of_cell g08
                            obtain ⟨rb, hrb⟩ : ∃ rb, rb = (wr.heap.size + 1) := ⟨_, rfl⟩
                            have HRB := Lib.hid hrb
                            clear hrb
                            refine hK.out _ _ ?S23 ?R23
                            case S23 => exact ⟨g08, g18⟩
                            case R23 =>
                              clear hHeld
                              intro hHeld
                              clear hK K
                              try simp only [Act.put, List.setIfInBounds_toArray, List.set_cons_zero, List.set_cons_succ]
                              refine wpAnyH_done (by kernel_rfl) ?_ _
                              as_aux_lemma =>
                                dsimp only [TailQ]
                                go_wp2_with fail
                                go_roundw
                                case rel =>
                                  have hrbE := HRB.out
                                  subst hrbE
                                  have CG := chSt_grow (x := (i : Int)) HC.out hBw (by rw [← HOF.out]; exact hown7) hgr7 hfr7 hown8 hgr8 hfr8 (by focus ((repeat (first | (with_reducible assumption) | (refine Blk.top' _ _ ?_; first | (with_reducible rfl) | ((repeat (first | (simp only [sz_alloc]) | (simp only [sz_drew]) | (simp only [sz_drewN]))); done)) | (with_reducible refine blk_alloc ?_ _) | (with_reducible refine blk_drew ?_) | (with_reducible refine blk_drewN ?_ _) | ((with_reducible refine Blk.grown ?_ hgr7 (hnv7 _ ?_)); rotate_left; (first | omega | ((repeat (first | (simp only [sz_alloc]) | (simp only [sz_drew]) | (simp only [sz_drewN]))); omega))))); done)) (by first | omega | ((repeat (first | (simp only [sz_alloc]) | (simp only [sz_drew]) | (simp only [sz_drewN]))); omega)) (by first | omega | ((repeat (first | (simp only [sz_alloc]) | (simp only [sz_drew]) | (simp only [sz_drewN]))); omega)) (by repeat (with_reducible (first | assumption | exact Keeps.refl _ | refine Keeps.alloc ?_ _ | refine Keeps.drew ?_ | refine Keeps.drewN ?_ _))) (by repeat (with_reducible (first | assumption | exact Keeps.refl _ | refine Keeps.alloc ?_ _ | refine Keeps.drew ?_ | refine Keeps.drewN ?_ _)))
                                  exact ⟨i + 1, .slice a7 (OF.length + 1) c7, .slice a8 (vs.length + 1) c8, vs ++ [⟨some ⟨_, 0, none⟩, 1, 1⟩], by omega, by go_num, Lib.hid (by rw [cs0_succ]; exact CG.1.keep (by repeat (with_reducible (first | assumption | exact Keeps.refl _ | refine Keeps.alloc ?_ _ | refine Keeps.drew ?_ | refine Keeps.drewN ?_ _)))), Lib.hid (HO.out.trans (CG.2.trans (Keeps.only (by repeat (with_reducible (first | assumption | exact Keeps.refl _ | refine Keeps.alloc ?_ _ | refine Keeps.drew ?_ | refine Keeps.drewN ?_ _))) _)))⟩
                                case measure => simp [intOf]; omega
                          exact AllReadyH.nil
                      exact AllReadyH.nil
                  exact AllReadyH.nil
              exact AllReadyH.nil
          refine AllReadyH.cons (o := ?o24) ?h24 ?s24 ?m24
          case h24 => (simp only [List.getElem?_toArray, List.getElem?_cons_zero, List.getElem?_cons_succ]; try rfl)
          case s24 =>
            intro K hK
            go_simp
            refine hK.out _ _ ?S24 ?R24
            case S24 => go_keep
            case R24 =>
              clear hHeld
              intro hHeld
              clear hK K
              try simp only [Act.put, List.setIfInBounds_toArray, List.set_cons_zero, List.set_cons_succ]
              refine wpAnyH_ready (rs := [7, 15]) (by kernel_rfl) (by simp) ?_
              refine AllReadyH.cons (o := ?o25) ?h25 ?s25 ?m25
              case h25 => (simp only [List.getElem?_toArray, List.getElem?_cons_zero, List.getElem?_cons_succ]; try rfl)
              case s25 =>
                intro K hK
                go_simp
                refine hK.out _ _ ?S25 ?R25
                case S25 => go_keep
                case R25 =>
                  clear hHeld
                  intro hHeld
                  clear hK K
                  try simp only [Act.put, List.setIfInBounds_toArray, List.set_cons_zero, List.set_cons_succ]
                  refine wpAnyH_ready (rs := [8, 15]) (by kernel_rfl) (by simp) ?_
                  refine AllReadyH.cons (o := ?o26) ?h26 ?s26 ?m26
                  case h26 => (simp only [List.getElem?_toArray, List.getElem?_cons_zero, List.getElem?_cons_succ]; try rfl)
                  case s26 =>
                    intro K hK
                    refine step_push (by rfl) (.tmp 44) (.tmp 46) 24 (by rfl) Try.underlying24 info_int (by rfl) (by decide) (base := B) (f := ci) (l := OF) (by rfl) (by exact HOO.out.keep (by repeat (with_reducible (first | assumption | exact Keeps.refl _ | refine Keeps.alloc ?_ _ | refine Keeps.drew ?_ | refine Keeps.drewN ?_ _)))) (i : Int) _ _ (by rfl) ?_ ci_len ci_one (by omega) (by unfold maxLen; omega) (by first | omega | ((repeat (first | (simp only [sz_alloc]) | (simp only [sz_drew]) | (simp only [sz_drewN]))); omega)) ?_
                    (focus ((repeat (first | (with_reducible assumption) | (refine Blk.top' _ _ ?_; first | (with_reducible rfl) | ((repeat (first | (simp only [sz_alloc]) | (simp only [sz_drew]) | (simp only [sz_drewN]))); done)) | (with_reducible refine blk_alloc ?_ _) | (with_reducible refine blk_drew ?_) | (with_reducible refine blk_drewN ?_ _))); done))
                    intro v7 w7 hown7 hbel7 hgr7 hfr7
                    obtain ⟨a7, c7, e7⟩ := own_form' hown7
                    simp only [List.length_append, List.length_cons, List.length_nil, Nat.zero_add] at e7
                    subst e7
                    have hs7 : wr.heap.size ≤ w7.heap.size := Nat.le_trans (Keeps.size (show Keeps wr _ from (by repeat (with_reducible (first | assumption | exact Keeps.refl _ | refine Keeps.alloc ?_ _ | refine Keeps.drew ?_ | refine Keeps.drewN ?_ _))))) hgr7.size
                    have g07 : w7.cell? ⟨g, 0, none⟩ = some (.slice ao1 OF.length co1) := (Below.cell hbel7 (p := ⟨g, 0, none⟩) (by dsimp only; omega)).trans (Keeps.cell (show Keeps wr _ from (by repeat (with_reducible (first | assumption | exact Keeps.refl _ | refine Keeps.alloc ?_ _ | refine Keeps.drew ?_ | refine Keeps.drewN ?_ _)))) g0)
                    have g17 : w7.cell? ⟨g, 1, none⟩ = some (.slice al1 vs.length cl1) := (Below.cell hbel7 (p := ⟨g, 1, none⟩) (by dsimp only; omega)).trans (Keeps.cell (show Keeps wr _ from (by repeat (with_reducible (first | assumption | exact Keeps.refl _ | refine Keeps.alloc ?_ _ | refine Keeps.drew ?_ | refine Keeps.drewN ?_ _)))) g1)
                    have hb7 := Blk.below (HC.out.blk.keep (show Keeps wr _ from (by repeat (with_reducible (first | assumption | exact Keeps.refl _ | refine Keeps.alloc ?_ _ | refine Keeps.drew ?_ | refine Keeps.drewN ?_ _))))) hbel7 HC.out.gB
                    have hg7 : g < w7.heap.size := hb7.lt
                    have HB7 := Lib.hid hb7
                    clear hb7
                    have hnv7 : ∀ idx, wr.heap.size ≤ idx → some idx ≠ (Value.slice ao1 OF.length co1).ownBlock := (fun idx hx e => by have := HVOB.out idx e.symm; omega)
                    have HOL7 := Lib.hid ((HOL.out.keep (show Keeps wr _ from (by repeat (with_reducible (first | assumption | exact Keeps.refl _ | refine Keeps.alloc ?_ _ | refine Keeps.drew ?_ | refine Keeps.drewN ?_ _))))).other hgr7 (fun b q e => HC.out.ne1 b e.symm q))
                    refine hK.out _ _ ?S26 ?R26
                    case S26 => exact ⟨g07, g17⟩
                    case R26 =>
                      clear hHeld
                      intro hHeld
                      clear hK K
                      try simp only [Act.put, List.setIfInBounds_toArray, List.set_cons_zero, List.set_cons_succ]
                      refine wpAnyH_ready (rs := [15]) (by kernel_rfl) (by simp) ?_
                      refine AllReadyH.cons (o := ?o27) ?h27 ?s27 ?m27
                      case h27 => (simp only [List.getElem?_toArray, List.getElem?_cons_zero, List.getElem?_cons_succ]; try rfl)
                      case s27 =>
                        intro K hK
                        go_simp
                        refine hK.out _ _ ?S27 ?R27
                        case S27 => go_keep
                        case R27 =>
                          clear hHeld
                          intro hHeld
                          clear hK K
                          try simp only [Act.put, List.setIfInBounds_toArray, List.set_cons_zero, List.set_cons_succ]
                          refine wpAnyH_ready (rs := [16]) (by kernel_rfl) (by simp) ?_
                          refine AllReadyH.cons (o := ?o28) ?h28 ?s28 ?m28
                          case h28 => (simp only [List.getElem?_toArray, List.getElem?_cons_zero, List.getElem?_cons_succ]; try rfl)
                          case s28 =>
                            intro K hK
                            refine step_push (by rfl) (.tmp 51) (.tmp 54) 23 (by rfl) Try.underlying23 info_ints (by rfl) (by decide) (base := B) (f := sle) (l := vs) (by rfl) (by exact HOL7.out.keep (by repeat (with_reducible (first | assumption | exact Keeps.refl _ | refine Keeps.alloc ?_ _ | refine Keeps.drew ?_ | refine Keeps.drewN ?_ _)))) ⟨some ⟨wr.heap.size, 0, none⟩, 1, 1⟩ _ _ (by rfl) ?_ sle_len sle_one (by omega) (by unfold maxLen; omega) (by first | omega | ((repeat (first | (simp only [sz_alloc]) | (simp only [sz_drew]) | (simp only [sz_drewN]))); omega)) ?_
                            (focus ((repeat (first | (with_reducible assumption) | (refine Blk.top' _ _ ?_; first | (with_reducible rfl) | ((repeat (first | (simp only [sz_alloc]) | (simp only [sz_drew]) | (simp only [sz_drewN]))); done)) | (with_reducible refine blk_alloc ?_ _) | (with_reducible refine blk_drew ?_) | (with_reducible refine blk_drewN ?_ _) | ((with_reducible refine Blk.grown ?_ hgr7 (hnv7 _ ?_)); rotate_left; (first | omega | ((repeat (first | (simp only [sz_alloc]) | (simp only [sz_drew]) | (simp only [sz_drewN]))); omega))))); done))
                            intro v8 w8 hown8 hbel8 hgr8 hfr8
                            obtain ⟨a8, c8, e8⟩ := own_form' hown8
                            simp only [List.length_append, List.length_cons, List.length_nil, Nat.zero_add] at e8
                            subst e8
                            have hs8 := hgr8.size
                            have g08 : w8.cell? ⟨g, 0, none⟩ = some (.slice ao1 OF.length co1) := (Below.cell hbel8 (p := ⟨g, 0, none⟩) (by dsimp only; omega)).trans (Keeps.cell (show Keeps w7 _ from (by repeat (with_reducible (first | assumption | exact Keeps.refl _ | refine Keeps.alloc ?_ _ | refine Keeps.drew ?_ | refine Keeps.drewN ?_ _)))) g07)
                            have g18 : w8.cell? ⟨g, 1, none⟩ = some (.slice al1 vs.length cl1) := (Below.cell hbel8 (p := ⟨g, 1, none⟩) (by dsimp only; omega)).trans (Keeps.cell (show Keeps w7 _ from (by repeat (with_reducible (first | assumption | exact Keeps.refl _ | refine Keeps.alloc ?_ _ | refine Keeps.drew ?_ | refine Keeps.drewN ?_ _)))) g17)
                            have hb8 := Blk.below (HB7.out.keep (show Keeps w7 _ from (by repeat (with_reducible (first | assumption | exact Keeps.refl _ | refine Keeps.alloc ?_ _ | refine Keeps.drew ?_ | refine Keeps.drewN ?_ _))))) hbel8 HC.out.gB
                            have hf80 := hb8.thawed 0
                            have hf81 := hb8.thawed 1
                            clear hb8
                            have hg8 : g < w8.heap.size := lt_of_cell g08
                            obtain ⟨rb, hrb⟩ : ∃ rb, rb = wr.heap.size := ⟨_, rfl⟩
                            have HRB := Lib.hid hrb
                            clear hrb
                            refine hK.out _ _ ?S28 ?R28
                            case S28 => exact ⟨g08, g18⟩
                            case R28 =>
                              clear hHeld
                              intro hHeld
                              clear hK K
                              try simp only [Act.put, List.setIfInBounds_toArray, List.set_cons_zero, List.set_cons_succ]
                              refine wpAnyH_done (by kernel_rfl) ?_ _
                              as_aux_lemma =>
                                dsimp only [TailQ]
                                go_wp2_with fail
                                go_roundw
                                case rel =>
                                  have hrbE := HRB.out
                                  subst hrbE
                                  have CG := chSt_grow (x := (i : Int)) HC.out hBw (by rw [← HOF.out]; exact hown7) hgr7 hfr7 hown8 hgr8 hfr8 (by focus ((repeat (first | (with_reducible assumption) | (refine Blk.top' _ _ ?_; first | (with_reducible rfl) | ((repeat (first | (simp only [sz_alloc]) | (simp only [sz_drew]) | (simp only [sz_drewN]))); done)) | (with_reducible refine blk_alloc ?_ _) | (with_reducible refine blk_drew ?_) | (with_reducible refine blk_drewN ?_ _) | ((with_reducible refine Blk.grown ?_ hgr7 (hnv7 _ ?_)); rotate_left; (first | omega | ((repeat (first | (simp only [sz_alloc]) | (simp only [sz_drew]) | (simp only [sz_drewN]))); omega))))); done)) (by first | omega | ((repeat (first | (simp only [sz_alloc]) | (simp only [sz_drew]) | (simp only [sz_drewN]))); omega)) (by first | omega | ((repeat (first | (simp only [sz_alloc]) | (simp only [sz_drew]) | (simp only [sz_drewN]))); omega)) (by repeat (with_reducible (first | assumption | exact Keeps.refl _ | refine Keeps.alloc ?_ _ | refine Keeps.drew ?_ | refine Keeps.drewN ?_ _))) (by repeat (with_reducible (first | assumption | exact Keeps.refl _ | refine Keeps.alloc ?_ _ | refine Keeps.drew ?_ | refine Keeps.drewN ?_ _)))
                                  exact ⟨i + 1, .slice a7 (OF.length + 1) c7, .slice a8 (vs.length + 1) c8, vs ++ [⟨some ⟨_, 0, none⟩, 1, 1⟩], by omega, by go_num, Lib.hid (by rw [cs0_succ]; exact CG.1.keep (by repeat (with_reducible (first | assumption | exact Keeps.refl _ | refine Keeps.alloc ?_ _ | refine Keeps.drew ?_ | refine Keeps.drewN ?_ _)))), Lib.hid (HO.out.trans (CG.2.trans (Keeps.only (by repeat (with_reducible (first | assumption | exact Keeps.refl _ | refine Keeps.alloc ?_ _ | refine Keeps.drew ?_ | refine Keeps.drewN ?_ _))) _)))⟩
                                case measure => simp [intOf]; omega
                          exact AllReadyH.nil
                      exact AllReadyH.nil
                  refine AllReadyH.cons (o := ?o29) ?h29 ?s29 ?m29
                  case h29 => (simp only [List.getElem?_toArray, List.getElem?_cons_zero, List.getElem?_cons_succ]; try rfl)
                  case s29 =>
                    intro K hK
                    go_simp
                    refine hK.out _ _ ?S29 ?R29
                    case S29 => go_keep
                    case R29 =>
                      clear hHeld
                      intro hHeld
                      clear hK K
                      try simp only [Act.put, List.setIfInBounds_toArray, List.set_cons_zero, List.set_cons_succ]
                      refine wpAnyH_ready (rs := [8]) (by kernel_rfl) (by simp) ?_
                      refine AllReadyH.cons (o := ?o30) ?h30 ?s30 ?m30
                      case h30 => (simp only [List.getElem?_toArray, List.getElem?_cons_zero, List.getElem?_cons_succ]; try rfl)
                      case s30 =>
                        intro K hK
                        refine step_push (by rfl) (.tmp 44) (.tmp 46) 24 (by rfl) Try.underlying24 info_int (by rfl) (by decide) (base := B) (f := ci) (l := OF) (by rfl) (by exact HOO.out.keep (by repeat (with_reducible (first | assumption | exact Keeps.refl _ | refine Keeps.alloc ?_ _ | refine Keeps.drew ?_ | refine Keeps.drewN ?_ _)))) (i : Int) _ _ (by rfl) ?_ ci_len ci_one (by omega) (by unfold maxLen; omega) (by first | omega | ((repeat (first | (simp only [sz_alloc]) | (simp only [sz_drew]) | (simp only [sz_drewN]))); omega)) ?_
                        (focus ((repeat (first | (with_reducible assumption) | (refine Blk.top' _ _ ?_; first | (with_reducible rfl) | ((repeat (first | (simp only [sz_alloc]) | (simp only [sz_drew]) | (simp only [sz_drewN]))); done)) | (with_reducible refine blk_alloc ?_ _) | (with_reducible refine blk_drew ?_) | (with_reducible refine blk_drewN ?_ _))); done))
                        intro v7 w7 hown7 hbel7 hgr7 hfr7
                        obtain ⟨a7, c7, e7⟩ := own_form' hown7
                        simp only [List.length_append, List.length_cons, List.length_nil, Nat.zero_add] at e7
                        subst e7
                        have hs7 : wr.heap.size ≤ w7.heap.size := Nat.le_trans (Keeps.size (show Keeps wr _ from (by repeat (with_reducible (first | assumption | exact Keeps.refl _ | refine Keeps.alloc ?_ _ | refine Keeps.drew ?_ | refine Keeps.drewN ?_ _))))) hgr7.size
                        have g07 : w7.cell? ⟨g, 0, none⟩ = some (.slice ao1 OF.length co1) := (Below.cell hbel7 (p := ⟨g, 0, none⟩) (by dsimp only; omega)).trans (Keeps.cell (show Keeps wr _ from (by repeat (with_reducible (first | assumption | exact Keeps.refl _ | refine Keeps.alloc ?_ _ | refine Keeps.drew ?_ | refine Keeps.drewN ?_ _)))) g0)
                        have g17 : w7.cell? ⟨g, 1, none⟩ = some (.slice al1 vs.length cl1) := (Below.cell hbel7 (p := ⟨g, 1, none⟩) (by dsimp only; omega)).trans (Keeps.cell (show Keeps wr _ from (by repeat (with_reducible (first | assumption | exact Keeps.refl _ | refine Keeps.alloc ?_ _ | refine Keeps.drew ?_ | refine Keeps.drewN ?_ _)))) g1)
                        have hb7 := Blk.below (HC.out.blk.keep (show Keeps wr _ from (by repeat (with_reducible (first | assumption | exact Keeps.refl _ | refine Keeps.alloc ?_ _ | refine Keeps.drew ?_ | refine Keeps.drewN ?_ _))))) hbel7 HC.out.gB
                        have hg7 : g < w7.heap.size := hb7.lt
                        have HB7 := Lib.hid hb7
                        clear hb7
                        have hnv7 : ∀ idx, wr.heap.size ≤ idx → some idx ≠ (Value.slice ao1 OF.length co1).ownBlock := (fun idx hx e => by have := HVOB.out idx e.symm; omega)
                        have HOL7 := Lib.hid ((HOL.out.keep (show Keeps wr _ from (by repeat (with_reducible (first | assumption | exact Keeps.refl _ | refine Keeps.alloc ?_ _ | refine Keeps.drew ?_ | refine Keeps.drewN ?_ _))))).other hgr7 (fun b q e => HC.out.ne1 b e.symm q))
                        refine hK.out _ _ ?S30 ?R30
                        case S30 => exact ⟨g07, g17⟩
                        case R30 =>
                          clear hHeld
                          intro hHeld
                          clear hK K
                          try simp only [Act.put, List.setIfInBounds_toArray, List.set_cons_zero, List.set_cons_succ]
                          refine wpAnyH_ready (rs := [16]) (by kernel_rfl) (by simp) ?_
                          refine AllReadyH.cons (o := ?o31) ?h31 ?s31 ?m31
                          case h31 => (simp only [List.getElem?_toArray, List.getElem?_cons_zero, List.getElem?_cons_succ]; try rfl)
                          case s31 =>
                            intro K hK
                            refine step_push (by rfl) (.tmp 51) (.tmp 54) 23 (by rfl) Try.underlying23 info_ints (by rfl) (by decide) (base := B) (f := sle) (l := vs) (by rfl) (by exact HOL7.out.keep (by repeat (with_reducible (first | assumption | exact Keeps.refl _ | refine Keeps.alloc ?_ _ | refine Keeps.drew ?_ | refine Keeps.drewN ?_ _)))) ⟨some ⟨wr.heap.size, 0, none⟩, 1, 1⟩ _ _ (by rfl) ?_ sle_len sle_one (by omega) (by unfold maxLen; omega) (by first | omega | ((repeat (first | (simp only [sz_alloc]) | (simp only [sz_drew]) | (simp only [sz_drewN]))); omega)) ?_
                            (focus ((repeat (first | (with_reducible assumption) | (refine Blk.top' _ _ ?_; first | (with_reducible rfl) | ((repeat (first | (simp only [sz_alloc]) | (simp only [sz_drew]) | (simp only [sz_drewN]))); done)) | (with_reducible refine blk_alloc ?_ _) | (with_reducible refine blk_drew ?_) | (with_reducible refine blk_drewN ?_ _) | ((with_reducible refine Blk.grown ?_ hgr7 (hnv7 _ ?_)); rotate_left; (first | omega | ((repeat (first | (simp only [sz_alloc]) | (simp only [sz_drew]) | (simp only [sz_drewN]))); omega))))); done))
                            intro v8 w8 hown8 hbel8 hgr8 hfr8
                            obtain ⟨a8, c8, e8⟩ := own_form' hown8
                            simp only [List.length_append, List.length_cons, List.length_nil, Nat.zero_add] at e8
                            subst e8
                            have hs8 := hgr8.size
                            have g08 : w8.cell? ⟨g, 0, none⟩ = some (.slice ao1 OF.length co1) := (Below.cell hbel8 (p := ⟨g, 0, none⟩) (by dsimp only; omega)).trans (Keeps.cell (show Keeps w7 _ from (by repeat (with_reducible (first | assumption | exact Keeps.refl _ | refine Keeps.alloc ?_ _ | refine Keeps.drew ?_ | refine Keeps.drewN ?_ _)))) g07)
                            have g18 : w8.cell? ⟨g, 1, none⟩ = some (.slice al1 vs.length cl1) := (Below.cell hbel8 (p := ⟨g, 1, none⟩) (by dsimp only; omega)).trans (Keeps.cell (show Keeps w7 _ from (by repeat (with_reducible (first | assumption | exact Keeps.refl _ | refine Keeps.alloc ?_ _ | refine Keeps.drew ?_ | refine Keeps.drewN ?_ _)))) g17)
                            have hb8 := Blk.below (HB7.out.keep (show Keeps w7 _ from (by repeat (with_reducible (first | assumption | exact Keeps.refl _ | refine Keeps.alloc ?_ _ | refine Keeps.drew ?_ | refine Keeps.drewN ?_ _))))) hbel8 HC.out.gB
                            have hf80 := hb8.thawed 0
                            have hf81 := hb8.thawed 1
                            clear hb8
                            have hg8 : g < w8.heap.size := lt_of_cell g08
                            obtain ⟨rb, hrb⟩ : ∃ rb, rb = wr.heap.size := ⟨_, rfl⟩
                            have HRB := Lib.hid hrb
                            clear hrb
                            refine hK.out _ _ ?S31 ?R31
                            case S31 => exact ⟨g08, g18⟩
                            case R31 =>
                              clear hHeld
                              intro hHeld
                              clear hK K
                              try simp only [Act.put, List.setIfInBounds_toArray, List.set_cons_zero, List.set_cons_succ]
                              refine wpAnyH_done (by kernel_rfl) ?_ _
                              as_aux_lemma =>
                                dsimp only [TailQ]
                                go_wp2_with fail
                                go_roundw
                                case rel =>
                                  have hrbE := HRB.out
                                  subst hrbE
                                  have CG := chSt_grow (x := (i : Int)) HC.out hBw (by rw [← HOF.out]; exact hown7) hgr7 hfr7 hown8 hgr8 hfr8 (by focus ((repeat (first | (with_reducible assumption) | (refine Blk.top' _ _ ?_; first | (with_reducible rfl) | ((repeat (first | (simp only [sz_alloc]) | (simp only [sz_drew]) | (simp only [sz_drewN]))); done)) | (with_reducible refine blk_alloc ?_ _) | (with_reducible refine blk_drew ?_) | (with_reducible refine blk_drewN ?_ _) | ((with_reducible refine Blk.grown ?_ hgr7 (hnv7 _ ?_)); rotate_left; (first | omega | ((repeat (first | (simp only [sz_alloc]) | (simp only [sz_drew]) | (simp only [sz_drewN]))); omega))))); done)) (by first | omega | ((repeat (first | (simp only [sz_alloc]) | (simp only [sz_drew]) | (simp only [sz_drewN]))); omega)) (by first | omega | ((repeat (first | (simp only [sz_alloc]) | (simp only [sz_drew]) | (simp only [sz_drewN]))); omega)) (by repeat (with_reducible (first | assumption | exact Keeps.refl _ | refine Keeps.alloc ?_ _ | refine Keeps.drew ?_ | refine Keeps.drewN ?_ _))) (by repeat (with_reducible (first | assumption | exact Keeps.refl _ | refine Keeps.alloc ?_ _ | refine Keeps.drew ?_ | refine Keeps.drewN ?_ _)))
                                  exact ⟨i + 1, .slice a7 (OF.length + 1) c7, .slice a8 (vs.length + 1) c8, vs ++ [⟨some ⟨_, 0, none⟩, 1, 1⟩], by omega, by go_num, Lib.hid (by rw [cs0_succ]; exact CG.1.keep (by repeat (with_reducible (first | assumption | exact Keeps.refl _ | refine Keeps.alloc ?_ _ | refine Keeps.drew ?_ | refine Keeps.drewN ?_ _)))), Lib.hid (HO.out.trans (CG.2.trans (Keeps.only (by repeat (with_reducible (first | assumption | exact Keeps.refl _ | refine Keeps.alloc ?_ _ | refine Keeps.drew ?_ | refine Keeps.drewN ?_ _))) _)))⟩
                                case measure => simp [intOf]; omega
                          exact AllReadyH.nil
                      exact AllReadyH.nil
                  exact AllReadyH.nil
              refine AllReadyH.cons (o := ?o32) ?h32 ?s32 ?m32
              case h32 => (simp only [List.getElem?_toArray, List.getElem?_cons_zero, List.getElem?_cons_succ]; try rfl)
              case s32 =>
                intro K hK
                go_simp
                refine hK.out _ _ ?S32 ?R32
                case S32 => go_keep
                case R32 =>
                  clear hHeld
                  intro hHeld
                  clear hK K
                  try simp only [Act.put, List.setIfInBounds_toArray, List.set_cons_zero, List.set_cons_succ]
                  refine wpAnyH_ready (rs := [7]) (by kernel_rfl) (by simp) ?_
                  refine AllReadyH.cons (o := ?o33) ?h33 ?s33 ?m33
                  case h33 => (simp only [List.getElem?_toArray, List.getElem?_cons_zero, List.getElem?_cons_succ]; try rfl)
                  case s33 =>
                    intro K hK
                    go_simp
                    refine hK.out _ _ ?S33 ?R33
                    case S33 => go_keep
                    case R33 =>
                      clear hHeld
                      intro hHeld
                      clear hK K
                      try simp only [Act.put, List.setIfInBounds_toArray, List.set_cons_zero, List.set_cons_succ]
                      refine wpAnyH_ready (rs := [8]) (by kernel_rfl) (by simp) ?_
                      refine AllReadyH.cons (o := ?o34) ?h34 ?s34 ?m34
                      case h34 => (simp only [List.getElem?_toArray, List.getElem?_cons_zero, List.getElem?_cons_succ]; try rfl)
                      case s34 =>
                        intro K hK
                        refine step_push (by rfl) (.tmp 44) (.tmp 46) 24 (by rfl) Try.underlying24 info_int (by rfl) (by decide) (base := B) (f := ci) (l := OF) (by rfl) (by exact HOO.out.keep (by repeat (with_reducible (first | assumption | exact Keeps.refl _ | refine Keeps.alloc ?_ _ | refine Keeps.drew ?_ | refine Keeps.drewN ?_ _)))) (i : Int) _ _ (by rfl) ?_ ci_len ci_one (by omega) (by unfold maxLen; omega) (by first | omega | ((repeat (first | (simp only [sz_alloc]) | (simp only [sz_drew]) | (simp only [sz_drewN]))); omega)) ?_
                        (focus ((repeat (first | (with_reducible assumption) | (refine Blk.top' _ _ ?_; first | (with_reducible rfl) | ((repeat (first | (simp only [sz_alloc]) | (simp only [sz_drew]) | (simp only [sz_drewN]))); done)) | (with_reducible refine blk_alloc ?_ _) | (with_reducible refine blk_drew ?_) | (with_reducible refine blk_drewN ?_ _))); done))
                        intro v7 w7 hown7 hbel7 hgr7 hfr7
                        obtain ⟨a7, c7, e7⟩ := own_form' hown7
                        simp only [List.length_append, List.length_cons, List.length_nil, Nat.zero_add] at e7
                        subst e7
                        have hs7 : wr.heap.size ≤ w7.heap.size := Nat.le_trans (Keeps.size (show Keeps wr _ from (by repeat (with_reducible (first | assumption | exact Keeps.refl _ | refine Keeps.alloc ?_ _ | refine Keeps.drew ?_ | refine Keeps.drewN ?_ _))))) hgr7.size
                        have g07 : w7.cell? ⟨g, 0, none⟩ = some (.slice ao1 OF.length co1) := (Below.cell hbel7 (p := ⟨g, 0, none⟩) (by dsimp only; omega)).trans (Keeps.cell (show Keeps wr _ from (by repeat (with_reducible (first | assumption | exact Keeps.refl _ | refine Keeps.alloc ?_ _ | refine Keeps.drew ?_ | refine Keeps.drewN ?_ _)))) g0)
                        have g17 : w7.cell? ⟨g, 1, none⟩ = some (.slice al1 vs.length cl1) := (Below.cell hbel7 (p := ⟨g, 1, none⟩) (by dsimp only; omega)).trans (Keeps.cell (show Keeps wr _ from (by repeat (with_reducible (first | assumption | exact Keeps.refl _ | refine Keeps.alloc ?_ _ | refine Keeps.drew ?_ | refine Keeps.drewN ?_ _)))) g1)
                        have hb7 := Blk.below (HC.out.blk.keep (show Keeps wr _ from (by repeat (with_reducible (first | assumption | exact Keeps.refl _ | refine Keeps.alloc ?_ _ | refine Keeps.drew ?_ | refine Keeps.drewN ?_ _))))) hbel7 HC.out.gB
                        have hg7 : g < w7.heap.size := hb7.lt
                        have HB7 := Lib.hid hb7
                        clear hb7
                        have hnv7 : ∀ idx, wr.heap.size ≤ idx → some idx ≠ (Value.slice ao1 OF.length co1).ownBlock := (fun idx hx e => by have := HVOB.out idx e.symm; omega)
                        have HOL7 := Lib.hid ((HOL.out.keep (show Keeps wr _ from (by repeat (with_reducible (first | assumption | exact Keeps.refl _ | refine Keeps.alloc ?_ _ | refine Keeps.drew ?_ | refine Keeps.drewN ?_ _))))).other hgr7 (fun b q e => HC.out.ne1 b e.symm q))
                        refine hK.out _ _ ?S34 ?R34
                        case S34 => exact ⟨g07, g17⟩
                        case R34 =>
                          clear hHeld
                          intro hHeld
                          clear hK K
                          try simp only [Act.put, List.setIfInBounds_toArray, List.set_cons_zero, List.set_cons_succ]
                          refine wpAnyH_ready (rs := [16]) (by kernel_rfl) (by simp) ?_
                          refine AllReadyH.cons (o := ?o35) ?h35 ?s35 ?m35
                          case h35 => (simp only [List.getElem?_toArray, List.getElem?_cons_zero, List.getElem?_cons_succ]; try rfl)
                          case s35 =>
                            intro K hK
                            refine step_push (by rfl) (.tmp 51) (.tmp 54) 23 (by rfl) Try.underlying23 info_ints (by rfl) (by decide) (base := B) (f := sle) (l := vs) (by rfl) (by exact HOL7.out.keep (by repeat (with_reducible (first | assumption | exact Keeps.refl _ | refine Keeps.alloc ?_ _ | refine Keeps.drew ?_ | refine Keeps.drewN ?_ _)))) ⟨some ⟨wr.heap.size, 0, none⟩, 1, 1⟩ _ _ (by rfl) ?_ sle_len sle_one (by omega) (by unfold maxLen; omega) (by first | omega | ((repeat (first | (simp only [sz_alloc]) | (simp only [sz_drew]) | (simp only [sz_drewN]))); omega)) ?_
                            (focus ((repeat (first | (with_reducible assumption) | (refine Blk.top' _ _ ?_; first | (with_reducible rfl) | ((repeat (first | (simp only [sz_alloc]) | (simp only [sz_drew]) | (simp only [sz_drewN]))); done)) | (with_reducible refine blk_alloc ?_ _) | (with_reducible refine blk_drew ?_) | (with_reducible refine blk_drewN ?_ _) | ((with_reducible refine Blk.grown ?_ hgr7 (hnv7 _ ?_)); rotate_left; (first | omega | ((repeat (first | (simp only [sz_alloc]) | (simp only [sz_drew]) | (simp only [sz_drewN]))); omega))))); done))
                            intro v8 w8 hown8 hbel8 hgr8 hfr8
                            obtain ⟨a8, c8, e8⟩ := own_form' hown8
                            simp only [List.length_append, List.length_cons, List.length_nil, Nat.zero_add] at e8
                            subst e8
                            have hs8 := hgr8.size
                            have g08 : w8.cell? ⟨g, 0, none⟩ = some (.slice ao1 OF.length co1) := (Below.cell hbel8 (p := ⟨g, 0, none⟩) (by dsimp only; omega)).trans (Keeps.cell (show Keeps w7 _ from (by repeat (with_reducible (first | assumption | exact Keeps.refl _ | refine Keeps.alloc ?_ _ | refine Keeps.drew ?_ | refine Keeps.drewN ?_ _)))) g07)
                            have g18 : w8.cell? ⟨g, 1, none⟩ = some (.slice al1 vs.length cl1) := (Below.cell hbel8 (p := ⟨g, 1, none⟩) (by dsimp only; omega)).trans (Keeps.cell (show Keeps w7 _ from (by repeat (with_reducible (first | assumption | exact Keeps.refl _ | refine Keeps.alloc ?_ _ | refine Keeps.drew ?_ | refine Keeps.drewN ?_ _)))) g17)
                            have hb8 := Blk.below (HB7.out.keep (show Keeps w7 _ from (by repeat (with_reducible (first | assumption | exact Keeps.refl _ | refine Keeps.alloc ?_ _ | refine Keeps.drew ?_ | refine Keeps.drewN ?_ _))))) hbel8 HC.out.gB
                            have hf80 := hb8.thawed 0
                            have hf81 := hb8.thawed 1
                            clear hb8
                            have hg8 : g < w8.heap.size := lt_of_cell g08
                            obtain ⟨rb, hrb⟩ : ∃ rb, rb = wr.heap.size := ⟨_, rfl⟩
                            have HRB := Lib.hid hrb
                            clear hrb
                            refine hK.out _ _ ?S35 ?R35
                            case S35 => exact ⟨g08, g18⟩
                            case R35 =>
                              clear hHeld
                              intro hHeld
                              clear hK K
                              try simp only [Act.put, List.setIfInBounds_toArray, List.set_cons_zero, List.set_cons_succ]
                              refine wpAnyH_done (by kernel_rfl) ?_ _
                              as_aux_lemma =>
                                dsimp only [TailQ]
                                go_wp2_with fail
                                go_roundw
                                case rel =>
                                  have hrbE := HRB.out
                                  subst hrbE
                                  have CG := chSt_grow (x := (i : Int)) HC.out hBw (by rw [← HOF.out]; exact hown7) hgr7 hfr7 hown8 hgr8 hfr8 (by focus ((repeat (first | (with_reducible assumption) | (refine Blk.top' _ _ ?_; first | (with_reducible rfl) | ((repeat (first | (simp only [sz_alloc]) | (simp only [sz_drew]) | (simp only [sz_drewN]))); done)) | (with_reducible refine blk_alloc ?_ _) | (with_reducible refine blk_drew ?_) | (with_reducible refine blk_drewN ?_ _) | ((with_reducible refine Blk.grown ?_ hgr7 (hnv7 _ ?_)); rotate_left; (first | omega | ((repeat (first | (simp only [sz_alloc]) | (simp only [sz_drew]) | (simp only [sz_drewN]))); omega))))); done)) (by first | omega | ((repeat (first | (simp only [sz_alloc]) | (simp only [sz_drew]) | (simp only [sz_drewN]))); omega)) (by first | omega | ((repeat (first | (simp only [sz_alloc]) | (simp only [sz_drew]) | (simp only [sz_drewN]))); omega)) (by repeat (with_reducible (first | assumption | exact Keeps.refl _ | refine Keeps.alloc ?_ _ | refine Keeps.drew ?_ | refine Keeps.drewN ?_ _))) (by repeat (with_reducible (first | assumption | exact Keeps.refl _ | refine Keeps.alloc ?_ _ | refine Keeps.drew ?_ | refine Keeps.drewN ?_ _)))
                                  exact ⟨i + 1, .slice a7 (OF.length + 1) c7, .slice a8 (vs.length + 1) c8, vs ++ [⟨some ⟨_, 0, none⟩, 1, 1⟩], by omega, by go_num, Lib.hid (by rw [cs0_succ]; exact CG.1.keep (by repeat (with_reducible (first | assumption | exact Keeps.refl _ | refine Keeps.alloc ?_ _ | refine Keeps.drew ?_ | refine Keeps.drewN ?_ _)))), Lib.hid (HO.out.trans (CG.2.trans (Keeps.only (by repeat (with_reducible (first | assumption | exact Keeps.refl _ | refine Keeps.alloc ?_ _ | refine Keeps.drew ?_ | refine Keeps.drewN ?_ _))) _)))⟩
                                case measure => simp [intOf]; omega
                          exact AllReadyH.nil
                      exact AllReadyH.nil
                  exact AllReadyH.nil
              exact AllReadyH.nil
          exact AllReadyH.nil
        · obtain rfl : i = f.Blocks.length := by omega
          have hok : ∀ e, e ∈ l → EdOk f.Blocks.length e := fun e he => by
            obtain ⟨j, hj, q⟩ := List.mem_iff_getElem.1 he
            have := edges_ok l.length 0 HEE.out.symm (by omega) j (Nat.zero_le _) hj
            rwa [nth_eq _ _ hj, q] at this
          have HOK := Lib.hid hok
          have hgB := HC.out.gB
          have hBw : B ≤ wr.heap.size := by have := HO.out.size; have := HB.out; omega
          have HHT := Lib.hid (Own.only HO.out HHEAT.out (fun b q e => by have e1 : hk = b := Option.some.inj q; omega))
          have hkw : Keeps w wr := HK2.out.trans' (Only.below HO.out (B := w.heap.size) (fun b q => by rcases q with q | q <;> omega) HK2.out.size) (Nat.le_refl _)
          have HKWR := Lib.hid hkw
          clear hok hkw
          obtain ⟨wo, hwo⟩ : ∃ wo : World, wo = wr := ⟨_, rfl⟩
          subst hwo
          go_upto_region 16 with (first
            | (go_at_call 13; refine (clone_edges_own _ l _ (Arr.keep HL.out (HKWR.out.trans (by repeat (with_reducible (first | assumption | exact Keeps.refl _ | refine Keeps.alloc ?_ _ | refine Keeps.drew ?_ | refine Keeps.drewN ?_ _))))) (by omega)).mono ?_; rintro e w3 ⟨v3, rfl, ho3, hk3⟩; obtain ⟨a3, c3, rfl⟩ := own_form' ho3)
            | (go_at_call 14; refine (often_sorted (base := wo.heap.size) ho3 (by omega) (fun e he => (HOK.out e he).2.2) hk3.size).mono ?_; rintro e w4 ⟨rfl, ho4, hg4⟩))
          have hbw : Below wo.heap.size wo w4 := Below.trans hk3 (below_grown hg4 hk3.size (fun q hq => ho3.row q hq))
          have hst4 := chSt_below HC.out hbw
          have hht4 := own_below HHT.out hbw (fun q hq => by have e1 : hk = q := Option.some.inj hq; omega)
          have hon4 : Only (fun b => b = g ∨ b = hk ∨ B ≤ b) w2 w4 := (HO.out.mono (fun b q => by rcases q with q | q; exact Or.inl q; exact Or.inr (Or.inr q))).trans' (S := fun b => b = g ∨ b = hk ∨ B ≤ b) (T := fun b => wo.heap.size ≤ b) ⟨hbw.os, hbw.tape, hbw.output, hbw.size, fun b _ hn => hbw.block b (by omega)⟩ (fun b q => Or.inl (Or.inr (Or.inr (by omega))))
          have hlt4 : ∀ b, (Value.slice a3 l.length c3).ownBlock = some b → b < w4.heap.size ∧ ¬ ChF vo vl vs b := fun b q => by
            have h1 := ho4.row b q
            have h2 := own_lt' ho4 q
            exact ⟨h2, fun e => by have := (HC.out.foot e).2; omega⟩
          have hol : (oftenL l).length = l.length := (List.mergeSort_perm l _).length_eq
          have hoo : ∀ e, e ∈ oftenL l → EdOk f.Blocks.length e := fun e he => HOK.out e (List.mem_mergeSort.1 he)
          have hE4 : Own w4 wo.heap.size 44 3 cEd (.slice a3 l.length c3) (oftenL l) := ho4
          obtain ⟨OE, hOE⟩ : ∃ OE, OE = oftenL l := ⟨_, rfl⟩
          rw [← hOE] at hol hoo hE4
          have HOE := Lib.hid hOE
          have HOO := Lib.hid hoo
          have HE4 := Lib.hid hE4
          have HST4 := Lib.hid hst4
          have HHT4 := Lib.hid hht4
          have HON4 := Lib.hid hon4
          have HLT4 := Lib.hid hlt4
          have HOL := Lib.hid hol
          clear hbw hst4 hht4 hon4 hlt4 hol hoo hE4 hOE ho3 hk3 ho4 hg4
          go_wp2_with fail
          have hoB : B ≤ wo.heap.size := hBw
          go_loopw [67] (fun s67 wr => ∃ (k : Nat) (vs : List Sle), k ≤ l.length ∧ s67 = .int .i64 k ∧ Hid (Ord2 f OE B g hk wo.heap.size vo vl (.slice a3 l.length c3) w2 k k vs wr)) (fun s67 _ => l.length - (intOf s67).toNat)
          case atStart => exact ⟨0, vs, Nat.zero_le _, rfl, Lib.hid ⟨HST4.out, HHT4.out, HE4.out, fun b q => (HLT4.out b q).2, HON4.out⟩⟩
          case round =>
            obtain ⟨k, vs2, hk2, rfl, HORD⟩ := hrel
            have HO2 := Lib.hid HORD.out.2.2.2.2
            have HE2 := Lib.hid HORD.out.2.2.1
            have hinv := chL_inv f (OE.take k) (fun e he => HOO.out e (List.mem_of_mem_take he))
            have hB2 : B ≤ wr.heap.size := by have := HO2.out.size; have := HB.out; omega
            have hkw2 : Keeps w wr := HK2.out.trans' (Only.below HO2.out (B := w.heap.size) (fun b q => by rcases q with q | q | q <;> omega) HK2.out.size) (Nat.le_refl _)
            have hfw : ∀ b, b < g → wr.heap[b]? = w2.heap[b]? := fun b q => HO2.out.block b (by have := HB.out; omega) (by omega)
            have y0 := (cell_of_heap (o := 0) (hfw fb hfg)).trans z0
            have y1 := (cell_of_heap (o := 1) (hfw fb hfg)).trans z1
            have y2 := (cell_of_heap (o := 2) (hfw fb hfg)).trans z2
            have HINV := Lib.hid hinv
            have HKW2' := Lib.hid hkw2
            clear hinv hkw2 hfw
            by_cases hlt : k < l.length
            · have hltz : (k : Int) < (l.length : Int) := by omega
              obtain ⟨E, hE⟩ : ∃ E, E = nth OE k := ⟨_, rfl⟩
              have hEm : E ∈ OE := by rw [hE]; exact nth_in (by rw [HOL.out]; exact hlt)
              obtain ⟨⟨e1, e2⟩, ⟨e3, e4⟩, e5, e6⟩ := HOO.out E hEm
              obtain ⟨eF, hF⟩ : ∃ n : Nat, E.From = n := ⟨E.From.toNat, by omega⟩
              obtain ⟨eT, hT⟩ : ∃ n : Nat, E.To = n := ⟨E.To.toNat, by omega⟩
              obtain ⟨eC, hC⟩ : ∃ n : Int, E.Count = n := ⟨_, rfl⟩
              rw [hF] at e1 e2
              rw [hT] at e3 e4
              rw [hC] at e5 e6
              have harr := HE2.out.arr cEd_len
              have HEE2 := Lib.hid hE
              have hkO : k < OE.length := by rw [HOL.out]; exact hlt
              obtain ⟨ao5, cap5, e50, e51, e52, -, e53⟩ := harr
              injection e50 with e501 e502 e503
              subst e501 e503
              obtain ⟨eb0, eo0, rfl, ec⟩ := e53 (by omega)
              have q0 := ec k 0 hkO (by omega)
              have q1 := ec k 1 hkO (by omega)
              have q2 := ec k 2 hkO (by omega)
              dsimp only at q0 q1 q2
              rw [← hE] at q0 q1 q2
              have p0 : wr.cell? ⟨eb0, eo0 + k * 3, none⟩ = some (.int .i64 (eF : Int)) := by rw [← hF]; exact q0
              have p1 : wr.cell? ⟨eb0, eo0 + k * 3 + 1, none⟩ = some (.int .i64 (eT : Int)) := by rw [← hT]; exact q1
              have p2 : wr.cell? ⟨eb0, eo0 + k * 3 + 2, none⟩ = some (.int .i64 eC) := by rw [← hC]; exact q2
              have HFTC : Hid (E.From = eF ∧ E.To = eT ∧ E.Count = eC) := Lib.hid ⟨hF, hT, hC⟩
              clear q0 q1 q2 ec e53 e502 hE hF hT hC hEm
              go_upto_region 19 with fail
              obtain ⟨wq, hwq, hBe, kq⟩ : ∃ wq, wq = wr.alloc (.cells #[.int .i64 (eF : Int), .int .i64 (eT : Int), .int .i64 eC] 44) ∧ Blk wq wr.heap.size (.cells #[.int .i64 (eF : Int), .int .i64 (eT : Int), .int .i64 eC] 44) ∧ Keeps wr wq := ⟨_, rfl, Blk.top _ _, (Keeps.refl _).alloc _⟩
              rw [← hwq]
              obtain ⟨eb, heb⟩ : ∃ eb, eb = wr.heap.size := ⟨_, rfl⟩
              rw [← heb] at hBe ⊢
              have hBeb : B ≤ eb := by omega
              have hF := HFTC.out.1
              have hC := HFTC.out.2.2
              have HORQ := HORD.out.keep kq
              obtain ⟨ch, chf, hkw', HORN⟩ := HORQ.heat hkB hgk hoB hkO (eF := eF) (by rw [← HEE2.out]; exact hF) (by omega)
              rw [← HEE2.out, hC] at HORN
              obtain ⟨h0, hh0⟩ : ∃ h0, h0 = nth (heatL f.Blocks.length (OE.take k)) eF := ⟨_, rfl⟩
              have hbd := heat_bd (n := f.Blocks.length) (l := OE.take k) (fun e he => HOO.out e (List.mem_of_mem_take he)) (j := eF) (by omega)
              have htk : (OE.take k).length ≤ l.length := by rw [List.length_take, HOL.out]; omega
              rw [← hh0] at ch HORN hbd
              have wS : IntKind.i64.wrap (h0 + eC) = h0 + eC := by rw [IntKind.wrap_i64]; omega
              have i0 := hBe.cell (j := 0) rfl
              have i1 := hBe.cell (j := 1) rfl
              have i2 := hBe.cell (j := 2) rfl
              have hel := hBe.lt
              have heFz : (eF : Int) < (f.Blocks.length : Int) := e2
              have hekn : ¬ eb = hk := by omega
              have hken : ¬ hk = eb := by omega
              have HBE := Lib.hid hBe
              have HN := Lib.hid HORN
              have hsq := kq.size
              have HWQ := Lib.hid hwq
              have HEB := Lib.hid heb
              have HKQ := Lib.hid kq
              clear hwq hBe HORQ HORN hh0 htk hF hC heb kq p0 p1 p2
              go_cut [] (fun wx => Hid (Ord2 f OE B g hk wo.heap.size vo vl (.slice (some ⟨eb0, eo0, none⟩) l.length c3) w2 k (k + 1) vs2 wx) ∧ Hid (Blk wx eb (.cells #[.int .i64 (eF : Int), .int .i64 (eT : Int), .int .i64 eC] 44)))
              case first =>
                go_region_law (fail)
                all_goals
                  go_wp2_with fail
                  go_meet
                  case rel => exact ⟨Lib.hid (HN.out.keep (by repeat (with_reducible (first | assumption | exact Keeps.refl _ | refine Keeps.alloc ?_ _ | refine Keeps.drew ?_ | refine Keeps.drewN ?_ _)))), Lib.hid ((HBE.out.grown (grown_setCell _ hk eF _) (by intro e; injection e with e; omega)).keep (by repeat (with_reducible (first | assumption | exact Keeps.refl _ | refine Keeps.alloc ?_ _ | refine Keeps.drew ?_ | refine Keeps.drewN ?_ _))))⟩
              case rest =>
                obtain ⟨HN5, HB5⟩ := hcut
                have hkwc : Keeps w wc := HK2.out.trans' (Only.below HN5.out.2.2.2.2 (B := w.heap.size) (fun b q => by rcases q with q | q | q <;> omega) HK2.out.size) (Nat.le_refl _)
                have hfw : ∀ b, b < g → wc.heap[b]? = w2.heap[b]? := fun b q => HN5.out.2.2.2.2.block b (by have := HB.out; omega) (by omega)
                have y0 := (cell_of_heap (o := 0) (hfw fb hfg)).trans z0
                have y1 := (cell_of_heap (o := 1) (hfw fb hfg)).trans z1
                have y2 := (cell_of_heap (o := 2) (hfw fb hfg)).trans z2
                have i0 := HB5.out.cell (j := 0) rfl
                have i1 := HB5.out.cell (j := 1) rfl
                have i2 := HB5.out.cell (j := 2) rfl
                have hel := HB5.out.lt
                obtain ⟨bb, bof, rfl, bc⟩ := b3 (by omega)
                have eFn : eF < f.Blocks.length := by omega
                have eTn : eT < f.Blocks.length := by omega
                obtain ⟨yF, hyF⟩ : ∃ y, y = fnc f eF := ⟨_, rfl⟩
                obtain ⟨yT, hyT⟩ : ∃ y, y = fnc f eT := ⟨_, rfl⟩
                have r1 : wc.cell? ⟨bb, bof + eF * 14, none⟩ = some (.int .i64 yF) := by rw [hyF]; exact hkwc.cell (bc eF 0 eFn (by omega))
                have r2 : wc.cell? ⟨bb, bof + eT * 14, none⟩ = some (.int .i64 yT) := by rw [hyT]; exact hkwc.cell (bc eT 0 eTn (by omega))
                have hyTb := fit_fnc HFF.out eTn
                rw [← hyT] at hyTb
                obtain ⟨nT, hnT⟩ : ∃ n : Nat, yT = n := ⟨yT.toNat, by omega⟩
                subst hnT
                obtain ⟨fbk, fof, rfl, fc⟩ := f3 (by omega)
                obtain ⟨FT, hFT⟩ : ∃ z, z = nth f.Firsts nT := ⟨_, rfl⟩
                have r3 : wc.cell? ⟨fbk, fof + nT, none⟩ = some (.int .i64 FT) := by rw [hFT]; have z := hkwc.cell (fc nT 0 (by omega) (by omega)); simp only [Nat.mul_one, Nat.add_zero] at z; exact z
                have nTz : (nT : Int) < (f.Firsts.length : Int) := hyTb.2
                have eFz : (eF : Int) < (f.Blocks.length : Int) := by omega
                have eTz : (eT : Int) < (f.Blocks.length : Int) := by omega
                have hstep : chL f (OE.take (k + 1)) = if yF = nT ∧ ¬ FT = eT then joinC (chL f (OE.take k)) eF eT else chL f (OE.take k) := by
                  rw [take_succ_nth _ _ hkO, chL_snoc, ← HEE2.out]
                  unfold stepO
                  rw [HFTC.out.1, HFTC.out.2.1, Int.toNat_natCast, Int.toNat_natCast, ← hyF, ← hyT, Int.toNat_natCast, ← hFT]
                have HSTEP := Lib.hid hstep
                have HKWC := Lib.hid hkwc
                clear hkwc hfw bc fc b3 f3 hyF hyT hFT hstep hyTb ch chf hkw' hbd wS
                go_wp2_with fail
                by_cases hA : yF = nT
                · have tE : (yF == (nT : Int)) = true := by simpa using hA
                  by_cases hT : FT = eT
                  · have tN : (FT != (eT : Int)) = false := by simpa using hT
                    have hs : chL f (OE.take (k + 1)) = chL f (OE.take k) := by rw [HSTEP.out, if_neg (fun q => q.2 hT)]
                    have HS2 := Lib.hid hs
                    clear hA hT hs
                    go_quiet (fail)
                    go_wp2_with fail
                    go_roundw
                    case rel => exact ⟨k + 1, vs2, by omega, by go_num, Lib.hid (Ord2.same HN5.out HS2.out (by repeat (with_reducible (first | assumption | exact Keeps.refl _ | refine Keeps.alloc ?_ _ | refine Keeps.drew ?_ | refine Keeps.drewN ?_ _))))⟩
                    case measure => simp [intOf]; omega
                  · have tN : (FT != (eT : Int)) = true := by simpa using hT
                    have hs : chL f (OE.take (k + 1)) = joinC (chL f (OE.take k)) eF eT := by rw [HSTEP.out, if_pos ⟨hA, hT⟩]
                    have HS2 := Lib.hid hs
                    clear hA hT hs
                    go_quiet (fail)
                    go_wp2_with (go_at_call 16; refine (join_any (n := f.Blocks.length) (HN5.out.1.keep (by repeat (with_reducible (first | assumption | exact Keeps.refl _ | refine Keeps.alloc ?_ _ | refine Keeps.drew ?_ | refine Keeps.drewN ?_ _)))) HINV.out (by omega) ⟨by omega, eFz⟩ ⟨by omega, eTz⟩ (Nat.le_trans (by have := HN5.out.2.2.2.2.size; have := HB.out; omega) (Keeps.size (show Keeps wc _ from (by repeat (with_reducible (first | assumption | exact Keeps.refl _ | refine Keeps.alloc ?_ _ | refine Keeps.drew ?_ | refine Keeps.drewN ?_ _)))))) (fun x hx => cinv_rowlen HINV.out hx)).mono ?_; rintro e w6 ⟨rfl, hj6⟩)
                    go_roundw
                    case rel =>
                      obtain ⟨vs', hv⟩ := Ord2.join (HN5.out.keep (by repeat (with_reducible (first | assumption | exact Keeps.refl _ | refine Keeps.alloc ?_ _ | refine Keeps.drew ?_ | refine Keeps.drewN ?_ _)))) hkB hj6 HS2.out
                      exact ⟨k + 1, vs', by omega, by go_num, Lib.hid (hv.keep (by repeat (with_reducible (first | assumption | exact Keeps.refl _ | refine Keeps.alloc ?_ _ | refine Keeps.drew ?_ | refine Keeps.drewN ?_ _))))⟩
                    case measure => simp [intOf]; omega
                · have tE : (yF == (nT : Int)) = false := by simpa using hA
                  have hs : chL f (OE.take (k + 1)) = chL f (OE.take k) := by rw [HSTEP.out, if_neg (fun q => hA q.1)]
                  have HS2 := Lib.hid hs
                  clear hA hs
                  go_quiet (fail)
                  go_wp2_with fail
                  go_roundw
                  case rel => exact ⟨k + 1, vs2, by omega, by go_num, Lib.hid (Ord2.same HN5.out HS2.out (by repeat (with_reducible (first | assumption | exact Keeps.refl _ | refine Keeps.alloc ?_ _ | refine Keeps.drew ?_ | refine Keeps.drewN ?_ _))))⟩
                  case measure => simp [intOf]; omega
            · obtain rfl : l.length = k := by omega
              have hOEl : OE.take l.length = OE := by rw [← HOL.out, List.take_length]
              rw [hOEl] at HINV
              have hst1 := HORD.out.1
              have hht1 := HORD.out.2.1
              rw [hOEl] at hst1 hht1
              have HST1 := Lib.hid hst1
              have HHT1 := Lib.hid hht1
              clear hst1 hht1
              have HG := Lib.hid (HST1.out.blk)
              have g1 := HG.out.cell (j := 1) rfl
              have hgl := HG.out.lt
              have hvl := own_form' HST1.out.ol
              obtain ⟨avl, cvl, evl⟩ := hvl
              subst evl
              have hPARTS : ∀ w', Keeps wr w' → Calls Try.prog 17 #[.agg #[.slice ao f.Blocks.length cap, .slice tao f.Tables.length tcap, .slice fao f.Firsts.length fcap], .slice avl vs2.length cvl, .slice (some ⟨hk, 0, none⟩) f.Blocks.length f.Blocks.length] w' (Gives (fun v w'' => PartsAt w'' v (partsC f (chL f OE).ls (heatL f.Blocks.length OE))) w') := fun w' hk' => by
                have hfl := cinv_flat HINV.out
                exact parts_ch (HFL.out.keep (HKW2'.out.trans hk')) (HST1.out.keep hk') HINV.out (Own.ints (HHT1.out.keep hk')) (heatL_len _ _) (by omega) (by omega) (fun j hj => (heat_bd HOO.out (by rw [← heatL_len f.Blocks.length OE]; exact hj)).1) (by
                  rw [sumH_heat HOO.out _ hfl.2.1]
                  have := heatR_le _ hfl.1 OE HOO.out
                  rw [HOL.out] at this
                  omega)
              have HPARTS := Lib.hid hPARTS
              have HOEL := Lib.hid hOEl
              clear hPARTS hOEl
              go_wp2_with fail
              go_region_held3 (fun w' => w'.cell? ⟨fb, 0, none⟩ = some (.slice ao f.Blocks.length cap) ∧ w'.cell? ⟨fb, 1, none⟩ = some (.slice tao f.Tables.length tcap) ∧ w'.cell? ⟨fb, 2, none⟩ = some (.slice fao f.Firsts.length fcap) ∧ w'.cell? ⟨g, 1, none⟩ = some (.slice avl vs2.length cvl)) (first | go_keep | exact ⟨hk9.cell y0, hk9.cell y1, hk9.cell y2, hk9.cell g1⟩ | assumption | (go_simp))
                ((first
                  | (go_at_call 17; refine (HPARTS.out _ (by repeat (with_reducible (first | assumption | exact Keeps.refl _ | refine Keeps.alloc ?_ _ | refine Keeps.drew ?_ | refine Keeps.drewN ?_ _)))).mono ?_; rintro e w9 ⟨v9, rfl, hp9, hk9⟩; (repeat' (first | (with_reducible replace hk9 := Keeps.undrew hk9) | (with_reducible replace hk9 := Keeps.undrewN hk9))))))
              all_goals
                go_wp2_with fail
                refine bodyPost_end (results_tmp2 rfl _ _ _) rfl ?_
                exact ⟨v9, by rw [HE.out]; rfl, by rw [HS.out, ← HOE.out]; exact hp9, HKW2'.out.trans hk9⟩
end Go.Proofs.Ytofaghcnkppmbaa
