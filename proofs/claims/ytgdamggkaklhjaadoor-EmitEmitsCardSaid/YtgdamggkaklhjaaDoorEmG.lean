/-
Small functions of the document's RecoveredOf: how an instru
-/
import Derived.Test.YtgdamggkaklhjaaDoorFlRec9P
import Derived.Test.YtgdamggkaklhjaaDoorIsaAtN
set_option linter.all false
section
namespace Go.Proofs.YtgdamggkaklhjaaDoor
open Go.RowKit BH
set_option maxHeartbeats 100000000
set_option maxRecDepth 100000
theorem infoParts {P : Program} {t : TypeId} {z : Value} {k b : Nat} (h : (P.info? t).map (fun i => (i.zero, i.size, i.bytes)) = some (some z, k, b)) : ∃ i, P.info? t = some i ∧ i.zero = some z ∧ i.size = k ∧ i.bytes = b := by
 cases hi : P.info? t with
 | none => rw [hi] at h; cases h
 | some i =>
  rw [hi] at h
  simp only [Option.map_some, Option.some.injEq, Prod.mk.injEq] at h
  exact ⟨i, rfl, h.1, h.2.1, h.2.2⟩
theorem info_boolD : (Tryd.prog.info? 4).map (fun i => (i.zero, i.size, i.bytes)) = some (some (.bool false), 1, 1) := by kernel_rfl
theorem ownMadeG {α : Type} {w : World} {B n : Nat} {v : Value} {e : TypeId} (h : α → Value) (z : α) (hz : (h z).cells = #[h z]) (H : w.ownsRow B e 1 v n (madeCells (h z).cells (n * 1)).toList) : Own w B e 1 (fun x => [h x]) v (List.replicate n z) := by
 unfold Own
 rw [List.length_replicate]
 have e : (madeCells (h z).cells (n * 1)).toList = (List.replicate n z).flatMap (fun x => [h x]) := by
  apply List.ext_getElem
  ·rw [flatMap_len (k := 1) (f := fun x => [h x]) (fun _ => rfl), List.length_replicate, Array.length_toList, size_madeCells]
  intro i h1 h2
  have e2 : (List.replicate n z).flatMap (fun x => [h x]) = List.replicate n (h z) := by rw [List.flatMap_replicate]; exact List.flatten_replicate_singleton
  simp only [e2, List.getElem_replicate, Array.getElem_toList]
  unfold madeCells
  simp [hz, Nat.mod_one]
 rw [← e]
 exact H
def iV (x : Int) : Value := .int .i64 x
def bV (x : Bool) : Value := .bool x
abbrev OwnI (i : Nat) (c : Nat → Nat) (w : World) (B : Nat) (v : Value) (l : List Int) : Prop := OwnC i c w B 3 1 (fun x => [iV x]) v l
abbrev OwnB (i : Nat) (c : Nat → Nat) (w : World) (B : Nat) (v : Value) (l : List Bool) : Prop := OwnC i c w B 4 1 (fun x => [bV x]) v l
theorem ownC_cell {α : Type} [Inhabited α] {i : Nat} {c : Nat → Nat} {w : World} {B : Nat} {e : TypeId} {h : α → Value} {l : List α} {g n cap : Nat} (H : OwnC i c w B e 1 (fun x => [h x]) (.slice (some ⟨g, 0, none⟩) n cap) l) {j : Nat} (hj : j < l.length) :
  w.cell? ⟨g, j, none⟩ = some (h (nth l j)) ∧ w.frozen? ⟨g, j, none⟩ = false ∧ g < w.heap.size ∧ (∀ y, OwnC i c (w.setCell ⟨g, j, none⟩ (h y)) B e 1 (fun x => [h x]) (.slice (some ⟨g, 0, none⟩) n cap) (l.set j y)) ∧ (∀ u, Turn (fun x => x = i) c w c (w.setCell ⟨g, j, none⟩ u)) := by
 obtain ⟨g', H0, e1, hb, hn, hc, hg, H1, hf, H2⟩ := own_set1 H.1 hj
 injection e1 with e2 e3 e4
 injection e2 with e5
 injection e5 with e6
 subst e6
 exact ⟨H1 j hj, hf j, hg, fun y => ⟨H2 y, fun b q => H.2 b q⟩, fun u => (Turn.set c w g j u).mono fun x hx => by rw [hx, H.2 g rfl]⟩
theorem endsN_none {K : Int} (h1 : 1 ≤ K) (h : K ≠ 1 ∧ K ≠ 2 ∧ K ≠ 3 ∧ K ≠ 24 ∧ K ≠ 22 ∧ K ≠ 18 ∧ K ≠ 19 ∧ K ≠ 20 ∧ K ≠ 21) : endsN K = 0 := by
 unfold endsN stN brN
 rw [if_neg (by simp; omega), if_neg jo, if_neg (by simp; omega)]
theorem ends_any (K D A B N : Int) (Lg : Bool) (w : World) (hK : 1 ≤ K) : Calls Tryd.prog 40 #[insV K D A B N Lg] w fun e w' => e = .returned (.int .i64 (endsN K)) ∧ Keeps w w' := by
 unfold insV
 have key : ∀ k : Int, (k = 1 ∨ k = 2 ∨ k = 3 ∨ k = 24 ∨ k = 22 ∨ k = 18 ∨ k = 19 ∨ k = 20 ∨ k = 21) → Calls Tryd.prog 40 #[.agg #[.int .i64 k, .int .i64 D, .int .i64 A, .int .i64 B, .int .i64 N, .bool Lg]] w fun e w' => e = .returned (.int .i64 (endsN k)) ∧ Keeps w w' := by
  intro k hk
  rcases hk with rfl | rfl | rfl | rfl | rfl | rfl | rfl | rfl | rfl <;>
  ·go_enter Tryd.func40, Tryd.ntmps40
   go_wp2_with fail
   go_ret
   exact ⟨rfl, (Keeps.refl _).alloc _⟩
 by_cases h : K ≠ 1 ∧ K ≠ 2 ∧ K ≠ 3 ∧ K ≠ 24 ∧ K ≠ 22 ∧ K ≠ 18 ∧ K ≠ 19 ∧ K ≠ 20 ∧ K ≠ 21
 ·rw [endsN_none hK h]
  obtain ⟨h1, h2, h3, h4, h5, h6, h7, h8, h9⟩ := h
  have t1 : (K == 1) = false := by simpa using h1
  have t2 : (K == 2) = false := by simpa using h2
  have t3 : (K == 3) = false := by simpa using h3
  have t4 : (K == 24) = false := by simpa using h4
  have t5 : (K == 22) = false := by simpa using h5
  have t6 : (K == 18) = false := by simpa using h6
  have t7 : (K == 19) = false := by simpa using h7
  have t8 : (K == 20) = false := by simpa using h8
  have t9 : (K == 21) = false := by simpa using h9
  clear h1 h2 h3 h4 h5 h6 h7 h8 h9 key hK
  go_enter Tryd.func40, Tryd.ntmps40
  go_wp2_with fail
  go_ret
  exact ⟨rfl, (Keeps.refl _).alloc _⟩
 exact key K jo
theorem calledBy_any {v : Value} {m : Img} {x : Int} {w : World} (hm : ImgAt w v m) (hN : m.Funcs.length ≤ 40) : Calls Tryd.prog 41 #[v, .int .i64 x] w fun e w' => e = .returned (.int .i64 (fnAt m x)) ∧ Keeps w w' := by
 obtain ⟨v0, v1, v2, v3, v4, rfl, -, ⟨fa, H1, rfl, -, -, -, f4⟩, -, -, -⟩ := hm
 obtain ⟨NF, H2⟩ := jE (m.Funcs.length)
 rw [← H2] at f4 hN ⊢
 obtain ⟨H6, H4⟩ := hid2 f4 H2
 obtain ⟨W, hW, hB, H5⟩ : ∃ W, W = w.alloc (.cells #[v0, .slice fa NF H1, v2, v3, v4, .int .i64 m.Entry] 28) ∧ Blk W w.heap.size (.cells #[v0, .slice fa NF H1, v2, v3, v4, .int .i64 m.Entry] 28) ∧ Keeps w W := ⟨_, rfl, Blk.top _ _, (Keeps.refl _).alloc _⟩
 obtain ⟨HW, HK, HB⟩ := hid3 hW H5 hB
 clear f4 H2 hW hB H5
 go_enter Tryd.func41, Tryd.ntmps41
 go_upto_region 1 with fail
 rw [← HW.out]
 clear HW
 go_wp2_with fail
 go_loopw [5] (fun s5 wr => ∃ k : Nat, k ≤ NF ∧ s5 = .int .i64 k ∧ Hid (Keeps W wr) ∧ Hid (∀ j, j < k → fnP m x j = false)) (fun s5 _ => NF - (intOf s5).toNat)
 case atStart => exact ⟨0, Nat.zero_le _, rfl, jH (Keeps.refl _), jH (fun j hj => absurd hj (Nat.not_lt_zero _))⟩
 case round =>
 obtain ⟨k, hk, rfl, H0, H3⟩ := hrel
 have n1 := (HB.out.keep H0.out).cell (j := 1) rfl
 have nl := (HB.out.keep H0.out).lt
 by_cases hlt : k < NF
 ·have hlz : (k : Int) < (NF : Int) := by omega
  obtain ⟨fb, H7, rfl, fc⟩ := H6.out jo
  obtain ⟨y, hy⟩ := jE ((nth m.Funcs k).Start)
  have d1 : wr.cell? ⟨fb, H7 + k * 3 + 1, none⟩ = some (.int .i64 y) := by rw [hy]; exact (HK.out.trans H0.out).cell (fc k 1 hlt jd)
  have hp : fnP m x k = decide (y = x) := by unfold fnP; rw [hy]
  clear fc hy
  by_cases he : y = x
  ·have te : (y == x) = true := by simpa using he
   have hR : fnAt m x = (k : Int) := by unfold fnAt; exact idxN_hit jo (by rw [← H4.out]; omega) (by rw [hp, decide_eq_true he]) (fun j _ h => H3.out j h)
   have HR := jH hR
   clear hR hp he
   go_wp2_with fail
   go_ret
   exact ⟨by rw [HR.out]; rfl, HK.out.trans (H0.out.trans (by repeat (with_reducible (first | assumption | exact Keeps.refl _ | refine Keeps.alloc ?_ _ | refine Keeps.drew ?_))))⟩
  have te : (y == x) = false := by simpa using he
  have HP := jH (show fnP m x k = false by rw [hp, decide_eq_false he])
  clear hp he
  go_wp2_with fail
  go_roundw
  case rel => exact ⟨k + 1, by omega, by go_num, jH (H0.out.trans (by repeat (with_reducible (first | assumption | exact Keeps.refl _ | refine Keeps.alloc ?_ _ | refine Keeps.drew ?_)))), jH (fun j hj => by
   rcases Nat.lt_or_ge j k with z | z
   ·exact H3.out j z
   obtain rfl : j = k := by omega
   exact HP.out)⟩
  case measure => exact jm
 have tl : decide ((k : Int) < (NF : Int)) = false := decide_eq_false jo
 have hR : fnAt m x = -1 := by unfold fnAt; exact idxN_miss (fun j _ h => H3.out j (by rw [← H4.out] at h; omega))
 have HR := jH hR
 clear hR
 go_wp2_with fail
 go_ret
 exact ⟨by rw [HR.out]; rfl, HK.out.trans (H0.out.trans (by repeat (with_reducible (first | assumption | exact Keeps.refl _ | refine Keeps.alloc ?_ _ | refine Keeps.drew ?_))))⟩
end Go.Proofs.YtgdamggkaklhjaaDoor
end
section
namespace Go.Proofs.YtgdamggkaklhjaaDoor
open BH
set_option maxRecDepth 100000
section
variable {m : Img}
def endR (m : Img) (s : Sp) : Int := if brN s.I.K = true then 4 else if s.I.K = 22 then 3 else if stN s.I.K = true then 1 else if isL m (s.A + s.Z) = true then 2 else 0
theorem pbR_ends (s : Sp) (b : Bk) : (pbR m s b).Ends = endR m s := by
 unfold pbR endR
 by_cases h1 : brN s.I.K = true
 ·rw [if_pos h1, if_pos h1]
 rw [if_neg h1, if_neg h1]
 by_cases h2 : s.I.K = 22
 ·rw [if_pos h2, if_pos h2]
 rw [if_neg h2, if_neg h2]
 by_cases h3 : stN s.I.K = true
 ·rw [if_pos h3, if_pos h3]
 rw [if_neg h3, if_neg h3]
 by_cases h4 : isL m (s.A + s.Z) = true
 ·rw [if_pos h4, if_pos h4]
 rw [if_neg h4, if_neg h4]
def lnS (m : Img) (s : Sp) : Int := lineAt m.Lines s.A m.Lines.length
theorem pbR_open {s : Sp} {b : Bk} (h : endR m s = 0) (hb : b.Ends = 0) : pbR m s b = { b with At := b.At ++ [s.A], Lines := b.Lines ++ [lnS m s], Code := b.Code ++ [plainI m s] } := by
 unfold endR at h
 unfold pbR
 by_cases h1 : brN s.I.K = true
 ·rw [if_pos h1] at h; cases h
 rw [if_neg h1] at h ⊢
 by_cases h2 : s.I.K = 22
 ·rw [if_pos h2] at h; cases h
 rw [if_neg h2] at h ⊢
 by_cases h3 : stN s.I.K = true
 ·rw [if_pos h3] at h; cases h
 rw [if_neg h3] at h ⊢
 by_cases h4 : isL m (s.A + s.Z) = true
 ·rw [if_pos h4] at h; cases h
 rw [if_neg h4]
 obtain ⟨x1, x2, x3, x4, x5, x6, x7, x8, x9⟩ := b
 dsimp only at hb
 subst hb
 rfl
def blkOf (m : Img) (ch : List (Nat × Sp)) : Bk := ch.foldl (fun b p => pbR m p.2 b) (newR (nth ch 0).1 (nth ch 0).2.A)
def obOf (m : Img) (op : List (Nat × Sp)) : Option Bk := if op = [] then none else some (blkOf m op)
structure ChGood (m : Img) (ch : List (Nat × Sp)) : Prop where
 pos : 0 < ch.length
 opn : ∀ k, k + 1 < ch.length → endR m (nth ch k).2 = 0
 lst : endR m (nth ch (ch.length - 1)).2 ≠ 0
theorem blkOf_snoc (op : List (Nat × Sp)) (p : Nat × Sp) : pbR m p.2 ((obOf m op).getD (newR p.1 p.2.A)) = blkOf m (op ++ [p]) := by
 unfold obOf
 by_cases h : op = []
 ·subst h
  rfl
 rw [if_neg h]
 unfold blkOf
 rw [List.foldl_append]
 obtain ⟨x, r, rfl⟩ : ∃ x r, op = x :: r := by
  cases op with
  | nil => exact absurd rfl h
  | cons x r => exact ⟨x, r, rfl⟩
 rfl
theorem gR_chunks : ∀ (l : List (Nat × Sp)) (cl : List Bk) (op : List (Nat × Sp)), (∀ k, k < op.length → endR m (nth op k).2 = 0) → (l = [] → op = []) → (l ≠ [] → endR m (nth l (l.length - 1)).2 ≠ 0) →
  ∃ chs : List (List (Nat × Sp)), gR m l cl (obOf m op) = cl ++ chs.map (blkOf m) ∧ chs.flatten = op ++ l ∧ ∀ ch ∈ chs, ChGood m ch
 | [], cl, op, _, h2, _ => by rw [h2 rfl]; exact ⟨[], by simp [gR], rfl, fun ch h => by cases h⟩
 | p :: r, cl, op, h1, _, h3 => by
  unfold gR
  rw [blkOf_snoc]
  have he : (blkOf m (op ++ [p])).Ends = endR m p.2 := by rw [← blkOf_snoc, pbR_ends]
  have hlast : r ≠ [] → endR m (nth r (r.length - 1)).2 ≠ 0 := fun q => by
   have z := h3 (by simp)
   obtain ⟨x, s, rfl⟩ : ∃ x s, r = x :: s := by
    cases r with
    | nil => exact absurd rfl q
    | cons x s => exact ⟨x, s, rfl⟩
   exact z
  by_cases hz : (blkOf m (op ++ [p])).Ends = 0
  ·rw [if_pos hz]
   rw [he] at hz
   have ho : obOf m (op ++ [p]) = some (blkOf m (op ++ [p])) := by unfold obOf; rw [if_neg (by simp)]
   rw [← ho]
   obtain ⟨chs, e1, e2, e3⟩ := gR_chunks r cl (op ++ [p]) (fun k hk => by
    rw [List.length_append, List.length_singleton] at hk
    rcases Nat.lt_or_ge k op.length with q | q
    ·rw [nth_app_lt _ _ q]; exact h1 k q
    rw [nth_app_eq _ _ jo]; exact hz) (fun q => by subst q; exact absurd hz (h3 (by simp))) hlast
   exact ⟨chs, e1, by rw [e2]; simp, e3⟩
  rw [if_neg hz]
  rw [he] at hz
  obtain ⟨chs, e1, e2, e3⟩ := gR_chunks r (cl ++ [blkOf m (op ++ [p])]) [] (fun k hk => absurd hk (Nat.not_lt_zero _)) (fun _ => rfl) hlast
  refine ⟨(op ++ [p]) :: chs, ?_, ?_, ?_⟩
  ·rw [show (none : Option Bk) = obOf m [] from rfl, e1]
   simp
  ·rw [List.flatten_cons, e2]; simp
  intro ch H0
  rcases List.mem_cons.1 H0 with rfl | H0
  ·refine ⟨by simp, fun k hk => ?_, ?_⟩
   ·rw [List.length_append, List.length_singleton] at hk
    rw [nth_app_lt _ _ jo]
    exact h1 k jo
   rw [List.length_append, List.length_singleton, nth_app_eq _ _ jo]
   exact hz
  exact e3 ch H0
theorem fold_open : ∀ (l : List (Nat × Sp)) (b : Bk), (∀ p ∈ l, endR m p.2 = 0) → b.Ends = 0 → l.foldl (fun b p => pbR m p.2 b) b = { b with At := b.At ++ l.map fun p => p.2.A, Lines := b.Lines ++ l.map fun p => lnS m p.2, Code := b.Code ++ l.map fun p => plainI m p.2 }
 | [], b, _, _ => by simp
 | p :: r, b, h, hb => by (rw [List.foldl_cons, pbR_open (h p List.mem_cons_self) hb, fold_open r _ (fun q hq => h q (List.mem_cons_of_mem _ hq)) (by exact hb)]); simp
theorem blkOf_is {op : List (Nat × Sp)} {p : Nat × Sp} (h : ∀ q ∈ op, endR m q.2 = 0) : blkOf m (op ++ [p]) = pbR m p.2 ⟨(nth (op ++ [p]) 0).1, (nth (op ++ [p]) 0).2.A, op.map fun q => plainI m q.2, op.map fun q => q.2.A, zIc, 0, 0, 0, op.map fun q => lnS m q.2⟩ := by
 unfold blkOf
 rw [List.foldl_append, fold_open op _ h rfl]
 simp [newR]
theorem ChGood.split {ch : List (Nat × Sp)} (h : ChGood m ch) : ∃ op p, ch = op ++ [p] ∧ (∀ q ∈ op, endR m q.2 = 0) ∧ endR m p.2 ≠ 0 := by
 have H0 : ch ≠ [] := by intro q; have := h.pos; rw [q] at this; exact absurd this (Nat.lt_irrefl _)
 refine ⟨ch.dropLast, ch.getLast H0, (List.dropLast_concat_getLast H0).symm, fun q hq => ?_, ?_⟩
 ·obtain ⟨k, hk, rfl⟩ := memNth hq
  rw [List.length_dropLast] at hk
  have := h.opn k jo
  rw [nth_eq _ _ jo] at this
  rw [nth_eq _ _ (by rw [List.length_dropLast]; omega), List.getElem_dropLast]
  exact this
 have := h.lst
 rw [nth_eq _ _ (by have := h.pos; omega)] at this
 rw [List.getLast_eq_getElem]
 exact this
end
end Go.Proofs.YtgdamggkaklhjaaDoor
end
