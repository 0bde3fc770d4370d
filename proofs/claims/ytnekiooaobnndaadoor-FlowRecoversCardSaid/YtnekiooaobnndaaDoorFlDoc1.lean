/-
 Small functions of the document's RecoveredOf: how an instruction ends a block; which function begins at an address. Rows that make leaves.
-/
import Derived.Test.YtnekiooaobnndaaDoorFlRec9P
import Derived.Test.YtnekiooaobnndaaDoorFlRec2
import Derived.Test.YtnekiooaobnndaaDoorIsaAt6
import Derived.OwnWalk
import Derived.Lib.Hide
set_option linter.unusedVariables false
set_option linter.unusedSimpArgs false
namespace Go.Proofs.YtnekiooaobnndaaDoor
open Go.RowKit BH
set_option maxHeartbeats 100000000
set_option maxRecDepth 100000
theorem infoParts {P : Program} {t : TypeId} {z : Value} {k b : Nat} (h : (P.info? t).map (fun i => (i.zero, i.size, i.bytes)) = some (some z, k, b)) : ∃ i, P.info? t = some i ∧ i.zero = some z ∧ i.size = k ∧ i.bytes = b := by
 cases hi : P.info? t with
 | none => rw [hi] at h; cases h
 | some i =>
  rw [hi] at h
  simp only [Option.map_some, Option.some.injEq, Prod.mk.injEq] at h
  exact ⟨i, rfl, h.1, h.2.1, h.2.2⟩
theorem info_boolD : (Tryd.prog.info? 4).map (fun i => (i.zero, i.size, i.bytes)) = some (some (.bool false), 1, 1) := by kernel_rfl
/-- what make leaves -/
theorem ownMadeG {α : Type} {w : World} {B n : Nat} {v : Value} {e : TypeId} (h : α → Value) (z : α) (hz : (h z).cells = #[h z]) (H : w.ownsRow B e 1 v n (madeCells (h z).cells (n * 1)).toList) : Own w B e 1 (fun x => [h x]) v (List.replicate n z) := by
 unfold Own
 rw [List.length_replicate]
 have e : (madeCells (h z).cells (n * 1)).toList = (List.replicate n z).flatMap (fun x => [h x]) := by
  apply List.ext_getElem
  ·rw [flatMap_len (k := 1) (f := fun x => [h x]) (fun _ => rfl), List.length_replicate, Array.length_toList, size_madeCells]
  ·intro i h1 h2
   have e2 : (List.replicate n z).flatMap (fun x => [h x]) = List.replicate n (h z) := by
    rw [List.flatMap_replicate]
    exact List.flatten_replicate_singleton
   simp only [e2, List.getElem_replicate, Array.getElem_toList]
   unfold madeCells
   simp [hz, Nat.mod_one]
 rw [← e]
 exact H
def iV (x : Int) : Value := .int .i64 x
def bV (x : Bool) : Value := .bool x
/-- a row of single cells, of colour i -/
abbrev OwnI (i : Nat) (c : Nat → Nat) (w : World) (B : Nat) (v : Value) (l : List Int) : Prop := OwnC i c w B 3 1 (fun x => [iV x]) v l
abbrev OwnB (i : Nat) (c : Nat → Nat) (w : World) (B : Nat) (v : Value) (l : List Bool) : Prop := OwnC i c w B 4 1 (fun x => [bV x]) v l
/-- a cell of such a row: what it holds, that it may be written, what is then -/
theorem ownC_cell {α : Type} [Inhabited α] {i : Nat} {c : Nat → Nat} {w : World} {B : Nat} {e : TypeId} {h : α → Value} {l : List α} {g n cap : Nat} (H : OwnC i c w B e 1 (fun x => [h x]) (.slice (some ⟨g, 0, none⟩) n cap) l) {j : Nat} (hj : j < l.length) :
  w.cell? ⟨g, j, none⟩ = some (h (nth l j)) ∧ w.frozen? ⟨g, j, none⟩ = false ∧ g < w.heap.size ∧ (∀ y, OwnC i c (w.setCell ⟨g, j, none⟩ (h y)) B e 1 (fun x => [h x]) (.slice (some ⟨g, 0, none⟩) n cap) (l.set j y)) ∧ (∀ u, Turn (fun x => x = i) c w c (w.setCell ⟨g, j, none⟩ u)) := by
 obtain ⟨g', cap', e1, hb, hn, hc, hg, hcl, hf, hst⟩ := own_set1 H.1 hj
 injection e1 with e2 e3 e4
 injection e2 with e5
 injection e5 with e6
 subst e6
 exact ⟨hcl j hj, hf j, hg, fun y => ⟨hst y, fun b q => H.2 b q⟩, fun u => (Turn.set c w g j u).mono fun x hx => by rw [hx, H.2 g rfl]⟩
theorem endsN_none {K : Int} (h1 : 1 ≤ K) (h : K ≠ 1 ∧ K ≠ 2 ∧ K ≠ 3 ∧ K ≠ 24 ∧ K ≠ 22 ∧ K ≠ 18 ∧ K ≠ 19 ∧ K ≠ 20 ∧ K ≠ 21) : endsN K = 0 := by
 unfold endsN stN brN
 rw [if_neg (by simp; omega), if_neg (by omega), if_neg (by simp; omega)]
theorem ends_any (K D A B N : Int) (Lg : Bool) (w : World) (hK : 1 ≤ K) : Calls Tryd.prog 22 #[insV K D A B N Lg] w fun e w' => e = .returned (.int .i64 (endsN K)) ∧ Keeps w w' := by
 unfold insV
 have key : ∀ k : Int, (k = 1 ∨ k = 2 ∨ k = 3 ∨ k = 24 ∨ k = 22 ∨ k = 18 ∨ k = 19 ∨ k = 20 ∨ k = 21) → Calls Tryd.prog 22 #[.agg #[.int .i64 k, .int .i64 D, .int .i64 A, .int .i64 B, .int .i64 N, .bool Lg]] w fun e w' => e = .returned (.int .i64 (endsN k)) ∧ Keeps w w' := by
  intro k hk
  rcases hk with rfl | rfl | rfl | rfl | rfl | rfl | rfl | rfl | rfl <;>
  ·go_enter Tryd.func22, Tryd.ntmps22
   go_wp2_with fail
   go_ret
   exact ⟨rfl, (Keeps.refl _).alloc _⟩
 by_cases h : K ≠ 1 ∧ K ≠ 2 ∧ K ≠ 3 ∧ K ≠ 24 ∧ K ≠ 22 ∧ K ≠ 18 ∧ K ≠ 19 ∧ K ≠ 20 ∧ K ≠ 21
 ·rw [endsN_none hK h]
  obtain ⟨h1, h2, h3, h4, h5, h6, h7, h8, h9⟩ := h
  have t1 : (K == 1) = false := by simpa using h1
  have t2 : (K == 2) = false := by simpa using h2
  have t3 : (K == 3) = false := by simpa using h3
  have t4 : (K == 24) = false := by simpa using h4
  have t5 : (K == 22) = false := by simpa using h5
  have t6 : (K == 18) = false := by simpa using h6
  have t7 : (K == 19) = false := by simpa using h7
  have t8 : (K == 20) = false := by simpa using h8
  have t9 : (K == 21) = false := by simpa using h9
  clear h1 h2 h3 h4 h5 h6 h7 h8 h9 key hK
  go_enter Tryd.func22, Tryd.ntmps22
  go_wp2_with fail
  go_ret
  exact ⟨rfl, (Keeps.refl _).alloc _⟩
 ·exact key K (by omega)
theorem calledBy_any {v : Value} {m : Img} {x : Int} {w : World} (hm : ImgAt w v m) (hN : m.Funcs.length ≤ 40) : Calls Tryd.prog 24 #[v, .int .i64 x] w fun e w' => e = .returned (.int .i64 (fnAt m x)) ∧ Keeps w w' := by
 obtain ⟨v0, v1, v2, v3, v4, rfl, -, ⟨fa, fcap, rfl, -, -, -, f4⟩, -, -, -⟩ := hm
 obtain ⟨NF, hNF⟩ : ∃ n, n = m.Funcs.length := ⟨_, rfl⟩
 rw [← hNF] at f4 hN ⊢
 have HF4 := Lib.hid f4
 have HNF := Lib.hid hNF
 obtain ⟨W, hW, hB, hkW⟩ : ∃ W, W = w.alloc (.cells #[v0, .slice fa NF fcap, v2, v3, v4, .int .i64 m.Entry] 28) ∧ Blk W w.heap.size (.cells #[v0, .slice fa NF fcap, v2, v3, v4, .int .i64 m.Entry] 28) ∧ Keeps w W := ⟨_, rfl, Blk.top _ _, (Keeps.refl _).alloc _⟩
 have HW := Lib.hid hW
 have HK := Lib.hid hkW
 have HB := Lib.hid hB
 clear f4 hNF hW hB hkW
 go_enter Tryd.func24, Tryd.ntmps24
 go_upto_region 1 with fail
 rw [← HW.out]
 clear HW
 go_wp2_with fail
 go_loopw [5] (fun s5 wr => ∃ k : Nat, k ≤ NF ∧ s5 = .int .i64 k ∧ Hid (Keeps W wr) ∧ Hid (∀ j, j < k → fnP m x j = false)) (fun s5 _ => NF - (intOf s5).toNat)
 case atStart => exact ⟨0, Nat.zero_le _, rfl, Lib.hid (Keeps.refl _), Lib.hid (fun j hj => absurd hj (Nat.not_lt_zero _))⟩
 case round =>
  obtain ⟨k, hk, rfl, HKW, HNO⟩ := hrel
  have n1 := (HB.out.keep HKW.out).cell (j := 1) rfl
  have nl := (HB.out.keep HKW.out).lt
  by_cases hlt : k < NF
  ·have hlz : (k : Int) < (NF : Int) := by omega
   obtain ⟨fb, fof, rfl, fc⟩ := HF4.out (by omega)
   obtain ⟨y, hy⟩ : ∃ y, y = (nth m.Funcs k).Start := ⟨_, rfl⟩
   have d1 : wr.cell? ⟨fb, fof + k * 3 + 1, none⟩ = some (.int .i64 y) := by rw [hy]; exact (HK.out.trans HKW.out).cell (fc k 1 hlt (by decide))
   have hp : fnP m x k = decide (y = x) := by unfold fnP; rw [hy]
   clear fc hy
   by_cases he : y = x
   ·have te : (y == x) = true := by simpa using he
    have hR : fnAt m x = (k : Int) := by unfold fnAt; exact idxN_hit (by omega) (by rw [← HNF.out]; omega) (by rw [hp, decide_eq_true he]) (fun j _ h => HNO.out j h)
    have HR := Lib.hid hR
    clear hR hp he
    go_wp2_with fail
    go_ret
    exact ⟨by rw [HR.out]; rfl, HK.out.trans (HKW.out.trans (by repeat (with_reducible (first | assumption | exact Keeps.refl _ | refine Keeps.alloc ?_ _ | refine Keeps.drew ?_))))⟩
   ·have te : (y == x) = false := by simpa using he
    have HP := Lib.hid (show fnP m x k = false by rw [hp, decide_eq_false he])
    clear hp he
    go_wp2_with fail
    go_roundw
    case rel => exact ⟨k + 1, by omega, by go_num, Lib.hid (HKW.out.trans (by repeat (with_reducible (first | assumption | exact Keeps.refl _ | refine Keeps.alloc ?_ _ | refine Keeps.drew ?_)))), Lib.hid (fun j hj => by
     rcases Nat.lt_or_ge j k with z | z
     ·exact HNO.out j z
     ·obtain rfl : j = k := by omega
      exact HP.out)⟩
    case measure => simp [intOf]; omega
  ·have tl : decide ((k : Int) < (NF : Int)) = false := decide_eq_false (by omega)
   have hR : fnAt m x = -1 := by unfold fnAt; exact idxN_miss (fun j _ h => HNO.out j (by rw [← HNF.out] at h; omega))
   have HR := Lib.hid hR
   clear hR
   go_wp2_with fail
   go_ret
   exact ⟨by rw [HR.out]; rfl, HK.out.trans (HKW.out.trans (by repeat (with_reducible (first | assumption | exact Keeps.refl _ | refine Keeps.alloc ?_ _ | refine Keeps.drew ?_))))⟩
end Go.Proofs.YtnekiooaobnndaaDoor
