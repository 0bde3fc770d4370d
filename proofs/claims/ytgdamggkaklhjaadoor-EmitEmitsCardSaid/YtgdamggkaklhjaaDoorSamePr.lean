/-
The document's side of emit: its pieces, the first piece of 
-/
import Derived.Test.YtgdamggkaklhjaaDoorEmD2
import Derived.Test.YtgdamggkaklhjaaDoorEmW
set_option linter.all false
section
namespace Go.Proofs.YtgdamggkaklhjaaDoor
open Go.RowKit BH
set_option maxHeartbeats 1000000000
set_option maxRecDepth 100000
structure DSt (w0 : World) (vA vF vB vT : Value) (A : List It) (fst beg AT : List Int) (c : Nat → Nat) (w : World) : Prop where
 keep : Keeps w0 w
 zero : ∀ b, b < w0.heap.size → c b = 0
 all : OwnC 2 c w w0.heap.size 66 10 cpc vA A
 fst : OwnI 3 c w w0.heap.size vF fst
 beg : OwnI 4 c w w0.heap.size vB beg
 ats : OwnI 5 c w w0.heap.size vT AT
section
variable {w0 : World} {vA vA' vF vB vT vT' : Value} {A A' : List It} {fst beg AT AT' : List Int} {c c' : Nat → Nat} {w w' : World} {I : Nat → Prop}
theorem DSt.turn (h : DSt w0 vA vF vB vT A fst beg AT c w) (t : Turn I c w c' w') (hI : ∀ i, i ≤ 5 → ¬ I i) : DSt w0 vA vF vB vT A fst beg AT c' w' :=
 ⟨h.keep.trans' (t.below h.keep.size h.zero (hI 0 jo)) (Nat.le_refl _), t.zero h.keep.size h.zero, h.all.turn t (hI 2 jo), h.fst.turn t (hI 3 jo), h.beg.turn t (hI 4 jo), h.ats.turn t (hI 5 jo)⟩
theorem DSt.keeps (h : DSt w0 vA vF vB vT A fst beg AT c w) (k : Keeps w w') : DSt w0 vA vF vB vT A fst beg AT c w' := h.turn (k.turn (fun _ => False) c) fun _ _ q => q
theorem DSt.putA (h : DSt w0 vA vF vB vT A fst beg AT c w) (t : Turn (fun i => i = 2) c w c' w') (o : OwnC 2 c' w' w0.heap.size 66 10 cpc vA' A') : DSt w0 vA' vF vB vT A' fst beg AT c' w' :=
 ⟨h.keep.trans' (t.below h.keep.size h.zero jd) (Nat.le_refl _), t.zero h.keep.size h.zero, o, h.fst.turn t jd, h.beg.turn t jd, h.ats.turn t jd⟩
theorem DSt.putF {x : List Int} (h : DSt w0 vA vF vB vT A fst beg AT c w) (t : Turn (fun i => i = 3) c w c' w') (o : OwnI 3 c' w' w0.heap.size vF x) : DSt w0 vA vF vB vT A x beg AT c' w' :=
 ⟨h.keep.trans' (t.below h.keep.size h.zero jd) (Nat.le_refl _), t.zero h.keep.size h.zero, h.all.turn t jd, o, h.beg.turn t jd, h.ats.turn t jd⟩
theorem DSt.putB {x : List Int} (h : DSt w0 vA vF vB vT A fst beg AT c w) (t : Turn (fun i => i = 4) c w c' w') (o : OwnI 4 c' w' w0.heap.size vB x) : DSt w0 vA vF vB vT A fst x AT c' w' :=
 ⟨h.keep.trans' (t.below h.keep.size h.zero jd) (Nat.le_refl _), t.zero h.keep.size h.zero, h.all.turn t jd, h.fst.turn t jd, o, h.ats.turn t jd⟩
theorem DSt.putT (h : DSt w0 vA vF vB vT A fst beg AT c w) (t : Turn (fun i => i = 5) c w c' w') (o : OwnI 5 c' w' w0.heap.size vT' AT') : DSt w0 vA vF vB vT' A fst beg AT' c' w' :=
 ⟨h.keep.trans' (t.below h.keep.size h.zero jd) (Nat.le_refl _), t.zero h.keep.size h.zero, h.all.turn t jd, h.fst.turn t jd, h.beg.turn t jd, o⟩
theorem ownC_piece {B g N cap : Nat} (h : OwnC 2 c w B 66 10 cpc (.slice (some ⟨g, 0, none⟩) N cap) A) {k : Nat} (hk : k < A.length) :
  (∀ q u, q < 10 → (cpc (nth A k))[q]? = some u → w.cell? ⟨g, k * 10 + q, none⟩ = some u) ∧ (∀ j, w.frozen? ⟨g, j, none⟩ = false) ∧ g < w.heap.size ∧
   ∀ q u y, q < 10 → cpc y = (cpc (nth A k)).set q u → OwnC 2 c (w.setCell ⟨g, k * 10 + q, none⟩ u) B 66 10 cpc (.slice (some ⟨g, 0, none⟩) N cap) (A.set k y) ∧ Turn (fun i => i = 2) c w c (w.setCell ⟨g, k * 10 + q, none⟩ u) := by
 obtain ⟨g1, H0, e, -, -, -, h1, h2, h3, -⟩ := own_setw cpc_len h.1 hk
 injection e with e1 e2 e3
 injection e1 with e1
 injection e1 with e1
 subst e1
 refine ⟨fun q u hq hu => h2 k q u hk hq hu, h3, h1, fun q u y hq hy => ?_⟩
 obtain ⟨g2, H1, e, -, -, -, -, -, -, hs⟩ := own_setc cpc_len h.1 hk hq
 injection e with e1 e2 e3
 injection e1 with e1
 injection e1 with e1
 subst e1
 refine ⟨⟨hs y u hy, h.2⟩, ?_⟩
 have H2 : c g = 2 := h.2 g rfl
 exact (Turn.set c w g _ _).mono fun i hi => by rw [hi, H2]
end
structure EmD (m : Img) (f : Fl) (l : List Pa) : Prop where
 one : ∀ t ∈ (lay f l).its, (0 ≤ t.Bl → t.Fn < 0) ∧ (t.I.K = 23 → 0 ≤ t.Fn)
 old : ∀ t ∈ (lay f l).its, 0 ≤ t.Old → t.Old < m.Text.length
 tx : m.Text.length ≤ 1000000000
theorem pcO_bl (t : It) : (pcO t).Bl = t.Bl ∧ (pcO t).Fn = t.Fn ∧ (pcO t).Old = t.Old ∧ (pcO t).Li = t.Li ∧ (pcO t).I.K = t.I.K ∧ (pcO t).I.D = t.I.D ∧ (pcO t).I.A = t.I.A ∧ (pcO t).I.B = t.I.B ∧ (pcO t).I.Lg = t.I.Lg := by
 unfold pcO
 split <;> exact ⟨rfl, rfl, rfl, rfl, rfl, rfl, rfl, rfl, rfl⟩
theorem pcO_lng (t : It) (b : Bool) : pcO (lngI t b) = lngI (pcO t) b := by
 unfold pcO lngI
 by_cases h : t.I.K = 23
 ·rw [if_pos h, if_pos h]
 rw [if_neg h, if_neg h]
theorem Lng_set {its : List It} {S : Nat → Bool} {k : Nat} (hk : k < its.length) : (Lng its S).set k (lngI (nth (Lng its S) k) true) = Lng its (fun j => S j || decide (j = k)) := by
 refine ext_nth (by rw [List.length_set, Lng_len, Lng_len]) fun i hi => ?_
 rw [List.length_set, Lng_len] at hi
 rw [nth_setw _ _ _ _ (by rw [Lng_len]; exact hi), Lng_nth (S := fun j => S j || decide (j = k)) hi]
 by_cases q : k = i
 ·subst q
  rw [if_pos rfl, Lng_nth hk, lng_lng]
  simp
 rw [if_neg q, Lng_nth hi, decide_eq_false (fun e => q e.symm), Bool.or_false]
def DcL (its : List It) (fst : List Int) (L : List It) : Prop := ∃ S, Low its fst S ∧ L = Lng its S
theorem DcL.step {its : List It} {fst : List Int} {L : List It} (h : DcL its fst L) {k : Nat} (hk : k < its.length) (hf : farI L fst k = true) : DcL its fst (L.set k (lngI (nth L k) true)) ∧ shorts (L.set k (lngI (nth L k) true)) < shorts L := by
 obtain ⟨S, h1, rfl⟩ := h
 rw [Lng_set hk]
 refine ⟨⟨_, h1.more _ fun j hj => ?_, rfl⟩, ?_⟩
 ·have e := of_decide_eq_true hj
  subst e
  exact ⟨hk, hf⟩
 obtain ⟨h0, hs, -⟩ := far_mono (T := S) (fun _ h => h) hk hf
 exact shorts_lt (fun j hj => by rw [hj]; rfl) hk h0 hs (by rw [decide_eq_true rfl, Bool.or_true])
theorem DcL.fine {its : List It} {fst : List Int} {L : List It} (h : DcL its fst L) : L.length = its.length ∧ ∀ k, k < its.length → ∃ b, nth L k = lngI (nth its k) b := by
 obtain ⟨S, h1, rfl⟩ := h
 exact ⟨Lng_len _ _, fun k hk => ⟨S k, Lng_nth hk⟩⟩
theorem DcL.start (its : List It) (fst : List Int) : DcL its fst its := ⟨_, Low.no its fst, (Lng_no its).symm⟩
theorem DcL.done {its : List It} {fst : List Int} {L : List It} (h : DcL its fst L) (hc : anyFar L fst = false) : L = setI fst its := by
 obtain ⟨S, h1, rfl⟩ := h
 exact setI_is h1 hc
def pdR (L : List It) (a k : Nat) : List (Int × Int) := ((List.range k).filter fun i => decide ((nth L i).Old = (a : Int))).map fun i => ((a : Int), adI L i)
def pdK (L : List It) (a : Nat) : List (Int × Int) := (List.range a).flatMap fun x => pdR L x L.length
theorem pdR_succ (L : List It) (a k : Nat) : pdR L a (k + 1) = pdR L a k ++ if (nth L k).Old = (a : Int) then [((a : Int), adI L k)] else [] := by
 unfold pdR
 rw [List.range_succ, List.filter_append, List.map_append]
 by_cases h : (nth L k).Old = (a : Int)
 ·rw [if_pos h]; simp [h]
 rw [if_neg h]; simp [h]
theorem pdK_succ (L : List It) (a : Nat) : pdK L (a + 1) = pdK L a ++ pdR L a L.length := by
 unfold pdK
 rw [List.range_succ, List.flatMap_append]
 simp
theorem pdR_zero (L : List It) (a : Nat) : pdR L a 0 = [] := rfl
theorem pdK_le (L : List It) (a : Nat) : ∀ d, (pdK L a).length ≤ (pdK L (a + d)).length
 | 0 => Nat.le_refl _
 | d + 1 => by have := pdK_le L a d; (show _ ≤ (pdK L (a + d + 1)).length); rw [pdK_succ, List.length_append]; omega
theorem pdR_mono (L : List It) (a k : Nat) : ∀ d, (pdR L a k).length ≤ (pdR L a (k + d)).length
 | 0 => Nat.le_refl _
 | d + 1 => by have := pdR_mono L a k d; (show _ ≤ (pdR L a (k + d + 1)).length); rw [pdR_succ, List.length_append]; omega
theorem pd_le {L : List It} {x T : Nat} (hx : x < T) {k : Nat} (hk : k ≤ L.length) : (pdK L x ++ pdR L x k).length ≤ (pdK L T).length := by
 have h1 := pdK_le L (x + 1) (T - (x + 1))
 rw [show x + 1 + (T - (x + 1)) = T by omega, pdK_succ, List.length_append] at h1
 have h2 := pdR_mono L x k (L.length - k)
 rw [show k + (L.length - k) = L.length by omega] at h2
 rw [List.length_append]
 omega
theorem sorted_one : ∀ {l r : List (Int × Int)}, l.Pairwise (fun x y => x.1 < y.1) → r.Pairwise (fun x y => x.1 < y.1) → (∀ x, x ∈ l ↔ x ∈ r) → l = r
 | [], [], _, _, _ => rfl
 | [], y :: r, _, _, h => absurd ((h y).2 List.mem_cons_self) (List.not_mem_nil)
 | x :: l, [], _, _, h => absurd ((h x).1 List.mem_cons_self) (List.not_mem_nil)
 | x :: l, y :: r, h1, h2, h => by
  rw [List.pairwise_cons] at h1 h2
  have e : x = y := by
   rcases List.mem_cons.1 ((h x).1 List.mem_cons_self) with e | q
   ·exact e
   rcases List.mem_cons.1 ((h y).2 List.mem_cons_self) with e | q2
   ·exact e.symm
   have z1 := h2.1 x q
   have z2 := h1.1 y q2
   omega
  subst e
  rw [sorted_one h1.2 h2.2 fun z => ⟨fun q => ?_, fun q => ?_⟩]
  ·rcases List.mem_cons.1 ((h z).1 (List.mem_cons_of_mem _ q)) with e | q2
   ·have z1 := h1.1 z q
    rw [e] at z1
    omega
   exact q2
  rcases List.mem_cons.1 ((h z).2 (List.mem_cons_of_mem _ q)) with e | q2
  ·have z1 := h2.1 z q
   rw [e] at z1
   omega
  exact q2
theorem sortP_mem {l : List (Int × Int)} (h : (l.map (·.1)).Nodup) (x : Int × Int) : x ∈ sortP l ↔ x ∈ l := by
 unfold sortP
 rw [List.mem_map]
 constructor
 ·rintro ⟨o, ho, rfl⟩
  have H0 := (List.mergeSort_perm _ _).mem_iff.1 ho
  rw [List.mem_map] at H0
  obtain ⟨y, hy, rfl⟩ := H0
  rw [newAt_is h y hy]
  exact hy
 intro hx
 exact ⟨x.1, (List.mergeSort_perm _ _).mem_iff.2 (List.mem_map_of_mem hx), by rw [newAt_is h x hx]⟩
theorem sortP_sorted {l : List (Int × Int)} (h : (l.map (·.1)).Nodup) : (sortP l).Pairwise (fun x y => x.1 < y.1) := by
 unfold sortP
 rw [List.pairwise_map]
 have h1 := List.pairwise_mergeSort (le := fun x y : Int => !decide (y < x)) (fun a b c h1 h2 => by simp at *; omega) (fun a b => by simp; omega) (l.map (·.1))
 have h2 : ((l.map (·.1)).mergeSort fun x y => !decide (y < x)).Pairwise (fun x y => x ≠ y) := (List.mergeSort_perm _ _).nodup_iff.2 h
 refine (h1.and h2).imp fun {a b} q => ?_
 have q1 := q.1
 have q2 := q.2
 simp at q1
 show a < b
 omega
theorem prs_adrs (L : List It) : prs (adrs L) = ((List.range L.length).filter fun i => decide (0 ≤ (nth L i).Old)).map fun i => ((nth L i).Old, adI L i) := by
 unfold prs adrs
 rw [List.filter_map, List.map_map]
 rfl
theorem pdK_is {L : List It} {T : Nat} (hn : ((prs (adrs L)).map (·.1)).Nodup) (ho : ∀ k, k < L.length → 0 ≤ (nth L k).Old → (nth L k).Old < T) : pdK L T = sortP (prs (adrs L)) := by
 have hp : (List.range L.length).Pairwise fun i j => (nth L i).Old ≠ (nth L j).Old ∨ ¬ 0 ≤ (nth L i).Old := by
  have z := hn
  rw [prs_adrs, List.map_map] at z
  unfold List.Nodup at z
  rw [List.pairwise_map, List.pairwise_filter] at z
  refine z.imp fun {i j} q => ?_
  by_cases h0 : 0 ≤ (nth L i).Old
  ·by_cases h1 : 0 ≤ (nth L j).Old
   ·exact Or.inl (q (decide_eq_true h0) (decide_eq_true h1))
   exact Or.inl jo
  exact Or.inr h0
 refine sorted_one ?_ (sortP_sorted hn) fun x => ?_
 ·unfold pdK
  rw [List.pairwise_flatMap]
  refine ⟨fun a _ => ?_, List.pairwise_lt_range.imp fun {a b} hab x hx y hy => ?_⟩
  ·unfold pdR
   rw [List.pairwise_map, List.pairwise_filter]
   refine hp.imp fun {i j} q h1 h2 => ?_
   have e1 := of_decide_eq_true h1
   have e2 := of_decide_eq_true h2
   omega
  unfold pdR at hx hy
  rw [List.mem_map] at hx hy
  obtain ⟨i, -, rfl⟩ := hx
  obtain ⟨j, -, rfl⟩ := hy
  show (a : Int) < (b : Int)
  omega
 rw [sortP_mem hn, prs_adrs]
 unfold pdK pdR
 rw [List.mem_flatMap]
 constructor
 ·rintro ⟨a, ha, hx⟩
  rw [List.mem_map] at hx ⊢
  obtain ⟨i, hi, rfl⟩ := hx
  rw [List.mem_filter] at hi
  have e := of_decide_eq_true hi.2
  exact ⟨i, List.mem_filter.2 ⟨hi.1, decide_eq_true jo⟩, by rw [e]⟩
 intro hx
 rw [List.mem_map] at hx
 obtain ⟨i, hi, rfl⟩ := hx
 rw [List.mem_filter] at hi
 have h0 := of_decide_eq_true hi.2
 have hl := List.mem_range.1 hi.1
 have hT := ho i hl h0
 refine ⟨(nth L i).Old.toNat, List.mem_range.2 jo, ?_⟩
 rw [List.mem_map]
 exact ⟨i, List.mem_filter.2 ⟨hi.1, decide_eq_true jo⟩, by rw [Int.toNat_of_nonneg h0]⟩
end Go.Proofs.YtgdamggkaklhjaaDoor
end
section
namespace Go.Proofs.YtgdamggkaklhjaaDoor
open BH
set_option maxRecDepth 100000
theorem fault_branch {K D A B N : Int} {Lg : Bool} (h : insFault K D A B N Lg = 0) (hk : 18 ≤ K ∧ K ≤ 21) {K' : Int} (hk' : 18 ≤ K' ∧ K' ≤ 21) (Lg' : Bool) : insFault K' 0 A B 0 Lg' = 0 := by
 obtain ⟨k, rfl⟩ : ∃ k : Nat, K = k := ⟨K.toNat, by omega⟩
 obtain ⟨-, -, ⟨r1, r2, r3, r4, r5, r6⟩, -, -, -⟩ := insFault_zero h
 unfold insFault
 rw [if_neg jo, if_neg jo, if_neg jo, if_neg jo, if_neg jo, if_neg jo, if_neg jo, if_neg jo, if_neg jo, if_pos jo]
 unfold fault regsOk rangeOk
 cases Lg' <;> simp <;> omega
theorem fault_jump (Lg : Bool) : insFault 22 0 0 0 0 Lg = 0 := by cases Lg <;> decide
theorem fault_call {D A B N : Int} {Lg : Bool} (h : insFault 23 D A B N Lg = 0) : insFault 23 D A B 0 Lg = 0 := by
 unfold insFault fault regsOk rangeOk at h ⊢
 revert h
 cases Lg <;> simp <;> intros <;> first | omega | (split at * <;> simp_all <;> omega)
theorem idxN_lt (p : Nat → Bool) : ∀ n i : Nat, idxN p n i < (i + n : Nat) ∨ idxN p n i = -1
 | 0, i => Or.inr rfl
 | n + 1, i => by
  unfold idxN
  split
  ·exact Or.inl jo
  rcases idxN_lt p n (i + 1) with h | h
  ·exact Or.inl jo
  exact Or.inr h
theorem chain_last : ∀ {l : List Sp} {s : Sp} {a e : Int}, Chain a (l ++ [s]) e → s.A + s.Z = e
 | [], s, a, e, h => by obtain ⟨h1, -, h3⟩ := h; simp only [Chain] at h3; omega
 | x :: r, s, a, e, h => chain_last h.2.2
section
variable {m : Img}
theorem cntL_mono {a : Nat} : ∀ d, cntL m a ≤ cntL m (a + d)
 | 0 => Nat.le_refl _
 | d + 1 => by have := cntL_mono (a := a) d; (show _ ≤ cntL m (a + d) + _); omega
theorem nb_is (h : Followed m) : (recF m).Blocks.length = cntL m m.Text.length := by
 have e := (h.cut (k := m.Funcs.length) (Nat.le_refl _)).1
 rw [h.good.sum, Int.toNat_natCast] at e
 unfold recF
 dsimp only
 rw [List.length_map, e]
theorem isL_zero (h : Followed m) : isL m 0 = true := by
 have hn : 0 < m.Funcs.length := by have := h.good.entry; omega
 exact isL_iff.2 (Or.inr (Or.inl ⟨0, hn, by rw [(h.good.func 0 hn).2.2.1]; rfl⟩))
theorem text_pos (h : Followed m) : 0 < m.Text.length := by
 have hn : 0 < m.Funcs.length := by have := h.good.entry; omega
 have h1 := (h.good.func 0 hn).2.2.2.1
 have h2 := sumF_mono h.good (show 1 ≤ m.Funcs.length from hn) (Nat.le_refl _)
 rw [h.good.sum] at h2
 have h3 : sumF m 1 = 0 + (nth m.Funcs 0).Size := rfl
 omega
theorem nb_pos (h : Followed m) : 0 < (recF m).Blocks.length := by
 rw [nb_is h]
 have h1 : cntL m 1 = 1 := by (show 0 + (if isL m ((0 : Nat) : Int) = true then 1 else 0) = 1); rw [Int.natCast_zero, if_pos (isL_zero h)]
 have h2 := text_pos h
 have h3 := cntL_mono (m := m) (a := 1) (m.Text.length - 1)
 rw [show 1 + (m.Text.length - 1) = m.Text.length by omega] at h3
 omega
theorem plR_lt (h : Followed m) (x : Int) : 0 ≤ plR m x ∧ plR m x < (recF m).Blocks.length := by
 have hp := nb_pos h
 unfold plR
 by_cases q : isL m x = true ∧ 0 ≤ x ∧ x < m.Text.length
 ·rw [if_pos q]
  obtain ⟨q1, q2, q3⟩ := q
  obtain ⟨n, rfl⟩ := Int.eq_ofNat_of_zero_le q2
  rw [Int.toNat_natCast, nb_is h]
  have h1 : cntL m (n + 1) = cntL m n + 1 := by show cntL m n + (if isL m (n : Int) = true then 1 else 0) = _; rw [if_pos q1]
  have h3 := cntL_mono (m := m) (a := n + 1) (m.Text.length - (n + 1))
  rw [show n + 1 + (m.Text.length - (n + 1)) = m.Text.length by omega] at h3
  omega
 rw [if_neg q]; omega
theorem flow_chunks (h : Followed m) : ∃ chs : List (List (Nat × Sp)), (recF m).Blocks = chs.map (blkOf m) ∧ chs.flatten = annS (allS m) m.Funcs.length ∧ ∀ ch ∈ chs, ChGood m ch := by
 have hl : annS (allS m) m.Funcs.length ≠ [] → endR m (nth (annS (allS m) m.Funcs.length) ((annS (allS m) m.Funcs.length).length - 1)).2 ≠ 0 := fun hne => by
  obtain ⟨H0, p, e⟩ : ∃ H0 p, annS (allS m) m.Funcs.length = H0 ++ [p] := ⟨_, _, (List.dropLast_concat_getLast hne).symm⟩
  have hc := h.chain
  rw [e, List.map_append] at hc
  have hz := chain_last hc
  rw [e, List.length_append, List.length_singleton, nth_app_eq _ _ jo]
  unfold endR
  split
  ·decide
  split
  ·decide
  split
  ·decide
  rw [if_pos (by rw [hz]; exact h.isL_end)]; decide
 obtain ⟨chs, e1, e2, e3⟩ := gR_chunks (m := m) (annS (allS m) m.Funcs.length) [] [] (fun k hk => absurd hk (Nat.not_lt_zero _)) (fun _ => rfl) hl
 rw [List.nil_append] at e1 e2
 refine ⟨chs, ?_, e2, e3⟩
 rw [← flR_is h]
 exact e1
theorem ann_short (h : Followed m) : (annS (allS m) m.Funcs.length).length ≤ m.Text.length := by
 have := h.chain.len
 rw [List.length_map] at this
 omega
structure BkF (m : Img) (b : Bk) : Prop where
 g : BkG b
 ne : b.Ends = 1 ∨ b.Ends = 2 → 0 < b.Code.length
 ok : ∀ k, k < b.Code.length → ItOk (cIt b k) ∧ (cIt b k).Fn < m.Funcs.length
 last : b.Ends = 4 → b.Last.D = 0 ∧ b.Last.N = 0 ∧ b.Last.Lg = false ∧ ∀ (K' : Int) (Lg : Bool), 18 ≤ K' ∧ K' ≤ 21 → insFault K' 0 b.Last.A b.Last.B 0 Lg = 0
 goes : b.Ends ≠ 1 → 0 ≤ b.To ∧ b.To < (recF m).Blocks.length
 els : b.Ends = 4 → 0 ≤ b.Else ∧ b.Else < (recF m).Blocks.length
 short : b.Code.length ≤ 2001
theorem plain_ok (h : Followed m) {q : Nat × Sp} (hq : q ∈ annS (allS m) m.Funcs.length) {b : Bk} {k : Nat} (hb : nth b.Code k = plainI m q.2) : ItOk (cIt b k) ∧ (cIt b k).Fn < m.Funcs.length := by
 have hg := (ann_in h.good h.sw hq).2.2
 have hf := hg.fine.ok
 rw [← hg.i] at hf
 have H1 : 0 < m.Funcs.length := by have := h.good.entry; omega
 unfold cIt
 rw [hb]
 unfold plainI Ins.ic
 by_cases h23 : q.2.I.K = 23
 ·rw [if_pos h23]
  dsimp only
  rw [if_pos h23]
  refine ⟨fun b hb => ?_, ?_⟩
  ·have H0 : b = false := by cases b with | false => rfl | true => have := hb rfl; dsimp only at this; omega
   subst H0
   dsimp only
   rw [Bool.or_false, h23]
   rw [h23] at hf
   exact fault_call hf
  dsimp only
  have := idxN_lt (fnP m (q.2.A + q.2.I.N)) m.Funcs.length 0
  unfold fnAt
  omega
 rw [if_neg h23, if_neg h23]
 refine ⟨fun b hb => ?_, by dsimp only; omega⟩
 have H0 : b = false := by cases b with | false => rfl | true => have := hb rfl; dsimp only at this; omega
 subst H0
 dsimp only
 rw [Bool.or_false]
 exact hf
theorem memA {op : List (Nat × Sp)} {p q : Nat × Sp} (h : q ∈ op) : q ∈ op ++ [p] := List.mem_append_left _ h
theorem blk_facts (h : Followed m) (h2 : m.Text.length ≤ 2000) {ch : List (Nat × Sp)} (hc : ChGood m ch) (hs : ∀ q ∈ ch, q ∈ annS (allS m) m.Funcs.length) (hl : ch.length ≤ m.Text.length) : BkF m (blkOf m ch) ∧ (blkOf m ch).At = ch.map fun q => q.2.A := by
 obtain ⟨op, p, rfl, h3, h4⟩ := hc.split
 have hp := hs p (List.mem_append_right _ (List.mem_singleton.2 rfl))
 have H1 := (ann_in h.good h.sw hp).2.2
 have hf := H1.fine.ok
 rw [← H1.i] at hf
 rw [List.length_append, List.length_singleton] at hl
 rw [blkOf_is h3]
 have H2 : ∀ k, k < op.length → nth (op.map fun q => plainI m q.2) k = plainI m (nth op k).2 := fun k hk => nthMap _ _ hk
 have H3 : ∀ b : Bk, b.Code = op.map (fun q => plainI m q.2) → ∀ k, k < b.Code.length → ItOk (cIt b k) ∧ (cIt b k).Fn < m.Funcs.length := fun b hb k hk => by rw [hb, List.length_map] at hk; exact plain_ok h (hs _ (memA (nthMem hk))) (by rw [hb, H2 k hk])
 have H0 : ∀ b : Bk, b.Code = op.map (fun q => plainI m q.2) ++ [plainI m p.2] → ∀ k, k < b.Code.length → ItOk (cIt b k) ∧ (cIt b k).Fn < m.Funcs.length := fun b hb k hk => by
  rw [hb, List.length_append, List.length_map, List.length_singleton] at hk
  rcases Nat.lt_or_ge k op.length with q | q
  ·exact plain_ok h (hs _ (memA (nthMem q))) (by rw [hb, nth_app_lt _ _ (by rw [List.length_map]; exact q), H2 k q])
  exact plain_ok h hp (by rw [hb, nth_app_eq _ _ (by rw [List.length_map]; omega)])
 unfold endR at h4
 unfold pbR
 by_cases c1 : brN p.2.I.K = true
 ·rw [if_pos c1]
  have hk : 18 ≤ p.2.I.K ∧ p.2.I.K ≤ 21 := by unfold brN at c1; simpa using c1
  refine ⟨⟨⟨by simp, by simp, fun _ => by simp, by dsimp only; omega, fun _ => hk, by dsimp only; rw [List.length_map]; omega⟩, fun q => by dsimp only at q; omega, H3 _ rfl, fun _ => ⟨rfl, rfl, rfl, fun K' Lg hK => fault_branch hf hk hK Lg⟩, fun _ => plR_lt h _, fun _ => plR_lt h _, by dsimp only; rw [List.length_map]; omega⟩, by simp⟩
 rw [if_neg c1] at h4 ⊢
 by_cases c2 : p.2.I.K = 22
 ·rw [if_pos c2]
  exact ⟨⟨⟨by simp, by simp, fun _ => by simp, by dsimp only; omega, fun q => by dsimp only at q; omega, by dsimp only; rw [List.length_map]; omega⟩, fun q => by dsimp only at q; omega, H3 _ rfl, fun q => by dsimp only at q; omega, fun _ => plR_lt h _, fun q => by dsimp only at q; omega, by dsimp only; rw [List.length_map]; omega⟩, by simp⟩
 rw [if_neg c2] at h4 ⊢
 by_cases c3 : stN p.2.I.K = true
 ·rw [if_pos c3]
  exact ⟨⟨⟨by simp, by simp, fun q => by dsimp only at q; omega, by dsimp only; omega, fun q => by dsimp only at q; omega, by simp; omega⟩, fun _ => by simp, H0 _ rfl, fun q => by dsimp only at q; omega, fun q => absurd rfl q, fun q => by dsimp only at q; omega, by simp; omega⟩, by simp⟩
 rw [if_neg c3] at h4 ⊢
 by_cases c4 : isL m (p.2.A + p.2.Z) = true
 ·rw [if_pos c4]
  exact ⟨⟨⟨by simp, by simp, fun q => by dsimp only at q; omega, by dsimp only; omega, fun q => by dsimp only at q; omega, by simp; omega⟩, fun _ => by simp, H0 _ rfl, fun q => by dsimp only at q; omega, fun _ => plR_lt h _, fun q => by dsimp only at q; omega, by simp; omega⟩, by simp⟩
 rw [if_neg c4] at h4
 exact absurd rfl h4
end
end Go.Proofs.YtgdamggkaklhjaaDoor
end
section
namespace Go.Proofs.YtgdamggkaklhjaaDoor
open Go.RowKit BH
set_option maxHeartbeats 1000000000
set_option maxRecDepth 100000
theorem samePairs_yes (va vb : Value) (l : List (Int × Int)) (w : World) (ha : PrAt w va l) (hb : PrAt w vb l) :
  Calls Tryd.prog 8 #[va, vb] w fun e w' => e = .returned (.bool true) ∧ Keeps w w' := by
 obtain ⟨ao, ca, rfl, a1, a2, -, a3⟩ := ha
 obtain ⟨bo, cb, rfl, b1, b2, -, b3⟩ := hb
 unfold maxLen at a2 b2
 go_enter Tryd.func8, Tryd.ntmps8
 go_wp2
 go_loopw [5] (fun i wr => ∃ k : Nat, k ≤ l.length ∧ i = .int .i64 k ∧ Keeps w wr) (fun i _ => l.length - (intOf i).toNat)
 case atStart => exact ⟨0, Nat.zero_le _, rfl, Keeps.refl _⟩
 case round =>
 obtain ⟨k, hk, rfl, H0⟩ := hrel
 by_cases hlt : k < l.length
 ·have H1 : (k : Int) < (l.length : Int) := by omega
  obtain ⟨ab, af, rfl, ac⟩ := a3 jo
  obtain ⟨bb, bf, rfl, bc⟩ := b3 jo
  have c0 := jc wr ab (af + k * 2) ((nth l k).1) (H0.cell (ac k 0 hlt jo))
  have c1 := jc wr ab (af + k * 2 + 1) ((nth l k).2) (H0.cell (ac k 1 hlt jo))
  have d0 := jc wr bb (bf + k * 2) ((nth l k).1) (H0.cell (bc k 0 hlt jo))
  have d1 := jc wr bb (bf + k * 2 + 1) ((nth l k).2) (H0.cell (bc k 1 hlt jo))
  generalize nth l k = E at *
  clear a3 b3 ac bc
  go_wp2
  go_quiet (fail)
  go_wp2
  go_roundw
  case rel => exact ⟨k + 1, by omega, by go_num, H0.drewN _⟩
  case measure => exact jm
 clear a3 b3
 go_wp2
 go_ret
 exact ⟨rfl, H0⟩
theorem img_form {w : World} {v : Value} {m : Img} (h : ImgAt w v m) : ∃ a0 c0 a1 c1 a2 c2 a3 c3 a4 c4, v = .agg #[.slice a0 m.Text.length c0, .slice a1 m.Funcs.length c1, .slice a2 m.Tables.length c2, .slice a3 m.Data.length c3, .slice a4 m.Lines.length c4, .int .i64 m.Entry] := by
 obtain ⟨v0, v1, v2, v3, v4, rfl, z0, z1, ⟨_, z2, _⟩, z3, z4⟩ := h
 obtain ⟨x0, c0, rfl⟩ := Arr.form z0
 obtain ⟨x1, c1, rfl⟩ := Arr.form z1
 obtain ⟨x2, c2, rfl⟩ := Arr.form z2
 obtain ⟨x3, c3, rfl⟩ := Arr.form z3
 obtain ⟨x4, c4, rfl⟩ := Arr.form z4
 exact ⟨_, _, _, _, _, _, _, _, _, _, rfl⟩
end Go.Proofs.YtgdamggkaklhjaaDoor
end
