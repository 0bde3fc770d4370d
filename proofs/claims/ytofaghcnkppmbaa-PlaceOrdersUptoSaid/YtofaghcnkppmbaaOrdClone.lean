/-
  slices.Clone at api.Edge, as a row of the call's own; and what the chains of place.Order are in memory as they are made.
-/
import Derived.Test.YtofaghcnkppmbaaOrdSt
import Derived.Test.YtofaghcnkppmbaaOnto
import Derived.Test.YtofaghcnkppmbaaOrdCmp
import Derived.Lib.SliceRun
import Derived.Lib.Hide
namespace Go.Proofs.Ytofaghcnkppmbaa
open Go.RowKit BH
set_option maxHeartbeats 10000000
set_option maxRecDepth 100000
theorem cEd_one (x : Ed) : ∀ u ∈ cEd x, u.oneCell' = true := by intro u hu; simp [cEd] at hu; rcases hu with rfl | rfl | rfl <;> rfl
theorem edges_arr {w : World} {v : Value} {l : List Ed} (h : Edges w v l) : Arr w v l.length 3 (fun i j => (cEd (nth l i)).getD j undef) :=
  h.congr fun i j _ hj => by
    match j, hj with
    | 0, _ => rfl
    | 1, _ => rfl
    | 2, _ => rfl
theorem clone_edges_own (v : Value) (l : List Ed) (w : World) (hv : Edges w v l) (hl : l.length ≤ 1099511627776) :
    Calls Try.prog 13 #[v] w (Gives (fun v' w' => Own w' w.heap.size 44 3 cEd v' l) w) := by
  have HV := Lib.hid hv
  obtain ⟨ao, cap, rfl, -, -, hcap, h0⟩ := hv
  have he := fun (w : World) (a : Option Addr) (n c : Nat) => Lib.run_eql_slice_nil (P := Try.prog) w 27 44 a n c 0 0 Try.underlying27
  cases ao with
  | none =>
    have hlen : l = [] := by
      rcases Nat.eq_zero_or_pos l.length with h | h
      · exact List.eq_nil_of_length_eq_zero h
      · obtain ⟨b, off, hab, _⟩ := h0 h; cases hab
    subst hlen
    clear hcap h0
    go_enter Try.func13, Try.ntmps13
    go_wp2
    go_ret
    exact ⟨_, rfl, Own.nil _ _ _ _ _, Keeps.refl _⟩
  | some a =>
    clear hcap h0
    go_enter Try.func13, Try.ntmps13
    go_wp2_with (at_builtin; (refine wpList_onto (by rfl) (.tmp 5) (.tmp 6) 27 27 (by rfl) Try.underlying27 info_edge (by rfl) (base := w.heap.size) (f := cEd) (l := []) (by rfl) (by exact Own.of_block (l := []) cEd_len (Nat.le_refl _) (Blk.top _ _) (by unfold maxLen; decide)) (ys := l) (by rfl) (by exact src_arr (by decide) cEd_len cEd_one Try.underlying27 (edges_arr (Arr.keep HV.out ((Keeps.refl w).alloc _)))) (by simp only [List.length_nil]; omega) (by simp only [List.length_nil]; unfold maxLen; omega) (by simp only [sz_alloc]; omega) ?_); intro v7 w7 hown7 hbel7 hgr7 hfr7)
    go_wp2
    go_ret
    exact ⟨_, rfl, by rw [List.nil_append] at hown7; exact hown7, ((Keeps.refl w).alloc _).trans' hbel7 (Nat.le_refl _)⟩
/-- one block more: it is a chain by itself -/
theorem chSt_grow {w wa w1 wb w2 : World} {B g : Nat} {T tI tC : TypeId} {vo vl vo' vl' : Value} {vs : List Sle} {s : Cs} {x : Int} {rb : Nat} (h : ChSt w B g T tI tC vo vl vs s) (hB : B ≤ w.heap.size)
    (o1 : Own w1 B tI 1 ci vo' (s.of ++ [x])) (g1 : wa.grownBy w1 vo.ownBlock) (f1 : ∀ b, vo'.ownBlock = some b → vo.ownBlock = some b ∨ wa.heap.size ≤ b)
    (o2 : Own w2 B tC 1 sle vl' (vs ++ [⟨some ⟨rb, 0, none⟩, 1, 1⟩])) (g2 : wb.grownBy w2 vl.ownBlock) (f2 : ∀ b, vl'.ownBlock = some b → vl.ownBlock = some b ∨ wb.heap.size ≤ b)
    (hr : Blk wb rb (.cells #[.int .i64 x] tI)) (hrw : w.heap.size ≤ rb) (hrb : rb < wa.heap.size ∨ w1.heap.size ≤ rb) (ka : Keeps w wa) (kb : Keeps w1 wb) :
    ChSt ((w2.setCell ⟨g, 0, none⟩ vo').setCell ⟨g, 1, none⟩ vl') B g T tI tC vo' vl' (vs ++ [⟨some ⟨rb, 0, none⟩, 1, 1⟩]) ⟨s.of ++ [x], s.ls ++ [[x]]⟩ ∧ Only (fun b => b = g ∨ B ≤ b) w ((w2.setCell ⟨g, 0, none⟩ vo').setCell ⟨g, 1, none⟩ vl') := by
  have sa := ka.size
  have sb := kb.size
  have s1 := g1.size
  have s2 := g2.size
  have hgw := h.blk.lt
  have hrb2 := hr.lt
  have gB := h.gB
  have vob : ∀ b, vo.ownBlock = some b → B ≤ b ∧ b < w.heap.size := fun b q => ⟨h.oo.row b q, own_lt' h.oo q⟩
  have vlb : ∀ b, vl.ownBlock = some b → B ≤ b ∧ b < w.heap.size := fun b q => ⟨h.ol.row b q, own_lt' h.ol q⟩
  -- the worlds, block by block
  have on1 : Only (fun b => vo.ownBlock = some b) w w1 := (ka.only _).trans (grown_only g1 fun b e => e)
  have on2 : Only (fun b => vl.ownBlock = some b) w1 w2 := (kb.only _).trans (grown_only g2 fun b e => e)
  have on3 : Only (fun b => b = g) w2 ((w2.setCell ⟨g, 0, none⟩ vo').setCell ⟨g, 1, none⟩ vl') := (Only.set (S := fun b => b = g) _ _ _ _ rfl).trans (Only.set (S := fun b => b = g) _ _ _ _ rfl)
  have b2 : Blk w2 g (.cells #[vo, vl] T) := ((h.blk.only on1 fun q => by have := vob g q; omega).only on2 fun q => by have := vlb g q; omega)
  have b3 : Blk ((w2.setCell ⟨g, 0, none⟩ vo').setCell ⟨g, 1, none⟩ vl') g (.cells #[vo', vl'] T) := (b2.set 0 vo').set 1 vl'
  have vo'b : ∀ b, vo'.ownBlock = some b → B ≤ b ∧ b < w1.heap.size ∧ b ≠ rb ∧ vl.ownBlock ≠ some b := fun b q => by
    have h1 := o1.row b q
    have h2 := own_lt' o1 q
    rcases f1 b q with p | p
    · have := vob b p
      exact ⟨h1, h2, by omega, h.ne1 b p⟩
    · refine ⟨h1, h2, by omega, fun e => ?_⟩
      have := vlb b e
      omega
  have vl'b : ∀ b, vl'.ownBlock = some b → B ≤ b ∧ b < w2.heap.size ∧ (vl.ownBlock = some b ∨ wb.heap.size ≤ b) := fun b q => ⟨o2.row b q, own_lt' o2 q, f2 b q⟩
  have rowb : ∀ j, j < vs.length → ∀ b, (nth vs j).v.ownBlock = some b → B ≤ b ∧ b < w.heap.size := fun j hj b q => ⟨(h.row j hj).row b q, own_lt' (h.row j hj) q⟩
  have hr2 : Blk w2 rb (.cells #[.int .i64 x] tI) := (grown_only g2 (S := fun b => vl.ownBlock = some b) fun b e => e).block rb hrb2 (fun q => by have := vlb rb q; omega) |>.trans hr
  have hn : (vs ++ [(⟨some ⟨rb, 0, none⟩, 1, 1⟩ : Sle)]).length = vs.length + 1 := by simp
  refine ⟨⟨b3, Own.only on3 (Own.only on2 o1 fun b q e => (vo'b b q).2.2.2 e) fun b q e => by have := vo'b b q; omega, Own.only on3 o2 fun b q e => by have := vl'b b q; omega, by simp [h.len], ?_, gB, ?_, ?_, ?_⟩, ?_⟩
  · intro j hj
    show Own _ B tI 1 ci (nth (vs ++ [_]) j).v (nth (s.ls ++ [[x]]) j)
    rcases Nat.lt_or_ge j vs.length with q | q
    · rw [nth_app_lt _ _ q, nth_app_lt _ _ (by rw [← h.len]; exact q)]
      refine Own.only on3 (Own.only on2 (Own.only on1 (h.row j q) fun b p e => (h.ne2 j b q p).1 e) fun b p e => (h.ne2 j b q p).2 e) fun b p e => ?_
      have := rowb j q b p
      omega
    · obtain rfl : j = vs.length := by omega
      rw [nth_app_eq _ _ rfl, nth_app_eq _ _ h.len]
      have hbl : Blk ((w2.setCell ⟨g, 0, none⟩ vo').setCell ⟨g, 1, none⟩ vl') rb (.cells #[.int .i64 x] tI) := hr2.only on3 fun e => by omega
      exact Own.of_block (l := [x]) ci_len (by omega) hbl (by unfold maxLen; simp)
  · intro b q e
    have h1 := vo'b b q
    rcases (vl'b b e).2.2 with p | p
    · exact h1.2.2.2 p
    · omega
  · intro j b hj hb
    have hj' : j < vs.length + 1 := by omega
    rcases Nat.lt_or_ge j vs.length with q | q
    · rw [nth_app_lt _ _ q] at hb
      have h1 := rowb j q b hb
      have h2 := h.ne2 j b q hb
      refine ⟨fun e => ?_, fun e => ?_⟩
      · rcases f1 b e with p | p
        · exact h2.1 p
        · omega
      · rcases f2 b e with p | p
        · exact h2.2 p
        · omega
    · obtain rfl : j = vs.length := by omega
      rw [nth_app_eq _ _ rfl] at hb
      obtain rfl : rb = b := Option.some.inj hb
      refine ⟨fun e => (vo'b _ e).2.2.1 rfl, fun e => ?_⟩
      rcases f2 _ e with p | p
      · have := vlb _ p; omega
      · omega
  · intro i j b hi hj hij hb hb2
    have hi' : i < vs.length + 1 := by omega
    have hj' : j < vs.length + 1 := by omega
    rcases Nat.lt_or_ge i vs.length with q | q
    · rw [nth_app_lt _ _ q] at hb
      have h1 := rowb i q b hb
      rcases Nat.lt_or_ge j vs.length with p | p
      · rw [nth_app_lt _ _ p] at hb2
        exact h.ne3 i j b q p hij hb hb2
      · obtain rfl : j = vs.length := by omega
        rw [nth_app_eq _ _ rfl] at hb2
        obtain rfl : rb = b := Option.some.inj hb2
        omega
    · obtain rfl : i = vs.length := by omega
      rw [nth_app_eq _ _ rfl] at hb
      obtain rfl : rb = b := Option.some.inj hb
      rcases Nat.lt_or_ge j vs.length with p | p
      · rw [nth_app_lt _ _ p] at hb2
        have := rowb j p _ hb2
        omega
      · omega
  · exact ((on1.mono fun b q => Or.inr (vob b q).1).trans (on2.mono fun b q => Or.inr (vlb b q).1)).trans (on3.mono fun b q => Or.inl q)
end Go.Proofs.Ytofaghcnkppmbaa
