/-
 isa.Check and the document's InstrFault: one contract each, for every instruction.
 Chains in memory: of each block its chain's number, the chains, each chain's own row; and what a join writes. No program is named here.
 image.lines: may an image's lines be?
 The document's numsCopy: the numbers of a slice in memory of the call's own.
-/
import Derived.Test.YtnekiooaobnndaaDoorIsaCheck1
import Derived.Test.YtnekiooaobnndaaDoorIsaCheck2
import Derived.Test.YtnekiooaobnndaaDoorIsaCheck3
import Derived.Test.YtnekiooaobnndaaDoorIsaFault1
import Derived.Test.YtnekiooaobnndaaDoorIsaFault2
import Derived.Test.YtnekiooaobnndaaDoorIsaFault3
import Derived.Test.YtnekiooaobnndaaDoorIsaLaid
import Derived.Test.YtnekiooaobnndaaDoorImgOpen
import Derived.Test.YtnekiooaobnndaaDoorOrdJoinP
import Derived.Test.YtnekiooaobnndaaDoorMapEnt
import Derived.Deep.QuietTactic
import Derived.BigQuiet
import Derived.Test.YtnekiooaobnndaaDoorRegHead
import Derived.Lib.Hide
section
set_option linter.all false
namespace Go.Proofs.YtnekiooaobnndaaDoor
open Go.RowKit BH
set_option maxHeartbeats 1000000
set_option maxRecDepth 100000
theorem check_bad (K D A B N : Int) (Lg : Bool) (w : World) (h : K < 1 ∨ 24 < K) :
  Calls Tryd.prog 70 #[insV K D A B N Lg] w fun e w' => e = .returned (.int .i64 3) ∧ Keeps w w' := by
 unfold insV
 go_enter Tryd.func70, Tryd.ntmps70
 go_wp2_with fail
 all_goals first
  | (exfalso; omega)
  | (go_ret; exact ⟨rfl, by repeat (first | exact Keeps.refl _ | apply Keeps.alloc)⟩)
theorem instrFault_bad (K D A B N : Int) (Lg : Bool) (w : World) (h : K < 1 ∨ 24 < K) :
  Calls Tryd.prog 54 #[insV K D A B N Lg] w fun e w' => e = .returned (.int .i64 3) ∧ Keeps w w' := by
 unfold insV
 go_enter Tryd.func54, Tryd.ntmps54
 go_wp2_with (go_at_call 23; refine (in_no _ _ _ _ (by omega)).mono ?_; rintro e w' ⟨rfl, rfl⟩)
 go_ret
 exact ⟨rfl, by repeat (first | exact Keeps.refl _ | apply Keeps.alloc)⟩
theorem insFault_bad {K D A B N : Int} {Lg : Bool} (h : K < 1 ∨ 24 < K) : insFault K D A B N Lg = 3 := by unfold insFault; rw [if_pos h]
theorem check_any (K D A B N : Int) (Lg : Bool) (w : World) (ht : Tab w) :
  Calls Tryd.prog 70 #[insV K D A B N Lg] w fun e w' => e = .returned (.int .i64 (insFault K D A B N Lg)) ∧ Keeps w w' := by
 by_cases h : K < 1 ∨ 24 < K
 ·rw [insFault_bad h]; exact check_bad K D A B N Lg w h
 ·obtain ⟨k, rfl⟩ : ∃ k : Nat, K = k := ⟨K.toNat, by omega⟩
  by_cases hbare : k ≤ 4
  ·rw [insFault_bare k (by omega) hbare]; exact check_bare k (by omega) hbare D A B N Lg w ht
  by_cases hwide : k ≤ 5
  ·rw [insFault_wide k (by omega) hwide]; exact check_wide k (by omega) hwide D A B N Lg w ht
  by_cases hpairA : k ≤ 6
  ·rw [insFault_pairA k (by omega) hpairA]; exact check_pairA k (by omega) hpairA D A B N Lg w ht
  by_cases hthree : k ≤ 13
  ·rw [insFault_three k (by omega) hthree]; exact check_three k (by omega) hthree D A B N Lg w ht
  by_cases hpairB : k ≤ 14
  ·rw [insFault_pairB k (by omega) hpairB]; exact check_pairB k (by omega) hpairB D A B N Lg w ht
  by_cases hstore : k ≤ 15
  ·rw [insFault_store k (by omega) hstore]; exact check_store k (by omega) hstore D A B N Lg w ht
  by_cases hdest : k ≤ 16
  ·rw [insFault_dest k (by omega) hdest]; exact check_dest k (by omega) hdest D A B N Lg w ht
  by_cases hsource : k ≤ 17
  ·rw [insFault_source k (by omega) hsource]; exact check_source k (by omega) hsource D A B N Lg w ht
  by_cases hbranch : k ≤ 21
  ·rw [insFault_branch k (by omega) hbranch]; exact check_branch k (by omega) hbranch D A B N Lg w ht
  by_cases hjump : k ≤ 22
  ·rw [insFault_jump k (by omega) hjump]; exact check_jump k (by omega) hjump D A B N Lg w ht
  by_cases hcall : k ≤ 23
  ·rw [insFault_call k (by omega) hcall]; exact check_call k (by omega) hcall D A B N Lg w ht
  by_cases htable : k ≤ 24
  ·rw [insFault_table k (by omega) htable]; exact check_table k (by omega) htable D A B N Lg w ht
  omega
theorem instrFault_any (K D A B N : Int) (Lg : Bool) (w : World) :
  Calls Tryd.prog 54 #[insV K D A B N Lg] w fun e w' => e = .returned (.int .i64 (insFault K D A B N Lg)) ∧ Keeps w w' := by
 by_cases h : K < 1 ∨ 24 < K
 ·rw [insFault_bad h]; exact instrFault_bad K D A B N Lg w h
 ·obtain ⟨k, rfl⟩ : ∃ k : Nat, K = k := ⟨K.toNat, by omega⟩
  by_cases hbare : k ≤ 4
  ·rw [insFault_bare k (by omega) hbare]; exact instrFault_bare k (by omega) hbare D A B N Lg w
  by_cases hwide : k ≤ 5
  ·rw [insFault_wide k (by omega) hwide]; exact instrFault_wide k (by omega) hwide D A B N Lg w
  by_cases hpairA : k ≤ 6
  ·rw [insFault_pairA k (by omega) hpairA]; exact instrFault_pairA k (by omega) hpairA D A B N Lg w
  by_cases hthree : k ≤ 13
  ·rw [insFault_three k (by omega) hthree]; exact instrFault_three k (by omega) hthree D A B N Lg w
  by_cases hpairB : k ≤ 14
  ·rw [insFault_pairB k (by omega) hpairB]; exact instrFault_pairB k (by omega) hpairB D A B N Lg w
  by_cases hstore : k ≤ 15
  ·rw [insFault_store k (by omega) hstore]; exact instrFault_store k (by omega) hstore D A B N Lg w
  by_cases hdest : k ≤ 16
  ·rw [insFault_dest k (by omega) hdest]; exact instrFault_dest k (by omega) hdest D A B N Lg w
  by_cases hsource : k ≤ 17
  ·rw [insFault_source k (by omega) hsource]; exact instrFault_source k (by omega) hsource D A B N Lg w
  by_cases hbranch : k ≤ 21
  ·rw [insFault_branch k (by omega) hbranch]; exact instrFault_branch k (by omega) hbranch D A B N Lg w
  by_cases hjump : k ≤ 22
  ·rw [insFault_jump k (by omega) hjump]; exact instrFault_jump k (by omega) hjump D A B N Lg w
  by_cases hcall : k ≤ 23
  ·rw [insFault_call k (by omega) hcall]; exact instrFault_call k (by omega) hcall D A B N Lg w
  by_cases htable : k ≤ 24
  ·rw [insFault_table k (by omega) htable]; exact instrFault_table k (by omega) htable D A B N Lg w
  omega
end Go.Proofs.YtnekiooaobnndaaDoor
end
section
namespace Go.Proofs.YtnekiooaobnndaaDoor.BH
open Go.RowKit
set_option maxRecDepth 100000
/-- Only the blocks of S have turned, and new ones have come. -/
structure Only (S : Nat → Prop) (w w' : World) : Prop where
 os : w'.os = w.os
 tape : w'.tape = w.tape
 output : w'.output = w.output
 size : w.heap.size ≤ w'.heap.size
 block : ∀ b, b < w.heap.size → ¬ S b → w'.heap[b]? = w.heap[b]?
theorem Only.refl (S : Nat → Prop) (w : World) : Only S w w := ⟨rfl, rfl, rfl, Nat.le_refl _, fun _ _ _ => rfl⟩
theorem Only.trans {S : Nat → Prop} {a b c : World} (h : Only S a b) (k : Only S b c) : Only S a c :=
 ⟨k.os.trans h.os, k.tape.trans h.tape, k.output.trans h.output, Nat.le_trans h.size k.size, fun x hx hs => (k.block x (Nat.lt_of_lt_of_le hx h.size) hs).trans (h.block x hx hs)⟩
/-- what turns later must have been in S, or be new -/
theorem Only.trans' {S T : Nat → Prop} {a b c : World} (h : Only S a b) (k : Only T b c) (ht : ∀ x, T x → S x ∨ a.heap.size ≤ x) : Only S a c :=
 ⟨k.os.trans h.os, k.tape.trans h.tape, k.output.trans h.output, Nat.le_trans h.size k.size, fun x hx hs => (k.block x (Nat.lt_of_lt_of_le hx h.size) fun q => by rcases ht x q with q | q; exact hs q; omega).trans (h.block x hx hs)⟩
theorem Only.mono {S T : Nat → Prop} {a b : World} (h : Only S a b) (hst : ∀ x, S x → T x) : Only T a b := ⟨h.os, h.tape, h.output, h.size, fun x hx hs => h.block x hx fun q => hs (hst x q)⟩
theorem Keeps.only {w w' : World} (h : Keeps w w') (S : Nat → Prop) : Only S w w' := ⟨Below.os h, Below.tape h, Below.output h, Below.size h, fun b hb _ => Below.block h b hb⟩
theorem grown_only {w w' : World} {row : Option Nat} (h : w.grownBy w' row) {S : Nat → Prop} (hs : ∀ b, row = some b → S b) : Only S w w' := ⟨h.os, h.tape, h.output, h.size, fun b hb hn => h.block b hb fun e => hn (hs b e.symm)⟩
theorem Only.below {S : Nat → Prop} {w w' : World} (h : Only S w w') {B : Nat} (hS : ∀ b, S b → B ≤ b) (hB : B ≤ w.heap.size) : Below B w w' :=
 ⟨h.os, h.tape, h.output, h.size, fun b hb => h.block b (by omega) fun q => by have := hS b q; omega⟩
theorem Only.set {S : Nat → Prop} (w : World) (b o : Nat) (u : Value) (h : S b) : Only S w (w.setCell ⟨b, o, none⟩ u) := grown_only (grown_setCell w b o u) fun x e => by cases e; exact h
theorem Own.only {α : Type} {w w' : World} {S : Nat → Prop} (ho : Only S w w') {base : Nat} {e : TypeId} {k : Nat} {f : α → List Value} {v : Value} {l : List α} (h : Own w base e k f v l) (hne : ∀ g, v.ownBlock = some g → ¬ S g) : Own w' base e k f v l := by
 obtain ⟨h1, h2⟩ := h
 refine ⟨h1, ?_⟩
 rcases h2 with h2 | ⟨g, cap, cur, hv, hb, hgg, r⟩
 ·exact Or.inl h2
 ·refine Or.inr ⟨g, cap, cur, hv, hb, ?_, r⟩
  rw [ho.block g (lt_of_block hgg) (hne g (by rw [hv]; rfl))]; exact hgg
theorem Blk.only {w w' : World} {S : Nat → Prop} (ho : Only S w w') {g : Nat} {o : Obj} (h : Blk w g o) (hn : ¬ S g) : Blk w' g o := (ho.block g h.lt hn).trans h
/-- a cell of an own row of single cells is written -/
theorem own_set1 {α : Type} [Inhabited α] {w : World} {base : Nat} {e : TypeId} {h : α → Value} {v : Value} {l : List α} (H : Own w base e 1 (fun x => [h x]) v l) {i : Nat} (hi : i < l.length) :
  ∃ g cap, v = .slice (some ⟨g, 0, none⟩) l.length cap ∧ base ≤ g ∧ l.length ≤ cap ∧ cap ≤ maxLen ∧ g < w.heap.size ∧ (∀ j, j < l.length → w.cell? ⟨g, j, none⟩ = some (h (nth l j))) ∧ (∀ j, w.frozen? ⟨g, j, none⟩ = false) ∧
   ∀ y, Own (w.setCell ⟨g, i, none⟩ (h y)) base e 1 (fun x => [h x]) v (l.set i y) := by
 obtain ⟨h1, h2⟩ := H
 rcases h2 with ⟨rfl, h0⟩ | ⟨g, cap, cur, rfl, hb, hg, hn, hc, hs, ht⟩
 ·omega
 ·have hm : ∀ l : List α, (l.flatMap fun x => [h x]) = l.map h := fun l => by
   induction l with
   | nil => rfl
   | cons x r ih => rw [List.flatMap_cons, ih]; rfl
  refine ⟨g, cap, rfl, hb, hn, hc, lt_of_block hg, fun j hj => ?_, fun j => Blk.thawed hg j, fun y => ⟨?_, Or.inr ⟨g, cap, cur.setIfInBounds i (h y), ?_, hb, Blk.set hg i (h y), ?_, hc, ?_, ?_⟩⟩⟩
  ·refine Blk.cell hg ?_
   rw [hm] at ht
   have : (cur.toList.take (l.length * 1))[j]? = (l.map h)[j]? := by rw [ht]
   rw [List.getElem?_take_of_lt (by omega), List.getElem?_map, List.getElem?_eq_getElem hj] at this
   rw [← Array.getElem?_toList, this, nth_eq _ _ hj]
   rfl
  ·rw [hm, List.length_map]; simp
  ·rw [List.length_set]
  ·rw [List.length_set]; exact hn
  ·rw [Array.size_setIfInBounds]; exact hs
  ·rw [hm] at ht ⊢
   rw [Array.toList_setIfInBounds, List.take_set, List.length_set, ht, List.map_set]
theorem own_read1 {α : Type} [Inhabited α] {w : World} {base : Nat} {e : TypeId} {h : α → Value} {v : Value} {l : List α} (H : Own w base e 1 (fun x => [h x]) v l) (hl : 0 < l.length) :
  ∃ g cap, v = .slice (some ⟨g, 0, none⟩) l.length cap ∧ base ≤ g ∧ l.length ≤ cap ∧ cap ≤ maxLen ∧ g < w.heap.size ∧ (∀ j, j < l.length → w.cell? ⟨g, j, none⟩ = some (h (nth l j))) ∧ (∀ j, w.frozen? ⟨g, j, none⟩ = false) := by
 obtain ⟨g, cap, h1, h2, h3, h4, h5, h6, h7, _⟩ := own_set1 H hl
 exact ⟨g, cap, h1, h2, h3, h4, h5, h6, h7⟩
/-- the blocks that chains hold -/
def ChF (vo vl : Value) (vs : List Sle) (b : Nat) : Prop := vo.ownBlock = some b ∨ vl.ownBlock = some b ∨ ∃ j, j < vs.length ∧ (nth vs j).v.ownBlock = some b
/-- Chains as place.Order lays them: block g holds the two slices, all else lies from B on. -/
structure ChSt (w : World) (B g : Nat) (T tI tC : TypeId) (vo vl : Value) (vs : List Sle) (s : Cs) : Prop where
 blk : Blk w g (.cells #[vo, vl] T)
 oo : Own w B tI 1 ci vo s.of
 ol : Own w B tC 1 sle vl vs
 len : vs.length = s.ls.length
 row : ∀ j, j < vs.length → Own w B tI 1 ci (nth vs j).v (nth s.ls j)
 gB : g < B
 ne1 : ∀ b, vo.ownBlock = some b → vl.ownBlock ≠ some b
 ne2 : ∀ j b, j < vs.length → (nth vs j).v.ownBlock = some b → vo.ownBlock ≠ some b ∧ vl.ownBlock ≠ some b
 ne3 : ∀ i j b, i < vs.length → j < vs.length → i ≠ j → (nth vs i).v.ownBlock = some b → (nth vs j).v.ownBlock ≠ some b
section
variable {w w' : World} {B g : Nat} {T tI tC : TypeId} {vo vl : Value} {vs : List Sle} {s : Cs}
theorem ChSt.foot (h : ChSt w B g T tI tC vo vl vs s) {b : Nat} (hb : ChF vo vl vs b) : B ≤ b ∧ b < w.heap.size := by
 rcases hb with q | q | ⟨j, hj, q⟩
 ·exact ⟨h.oo.row b q, own_lt' h.oo q⟩
 ·exact ⟨h.ol.row b q, own_lt' h.ol q⟩
 ·exact ⟨(h.row j hj).row b q, own_lt' (h.row j hj) q⟩
theorem ChSt.only (h : ChSt w B g T tI tC vo vl vs s) {S : Nat → Prop} (ho : Only S w w') (hg : ¬ S g) (hS : ∀ b, ChF vo vl vs b → ¬ S b) : ChSt w' B g T tI tC vo vl vs s :=
 { h with
  blk := h.blk.only ho hg
  oo := Own.only ho h.oo fun b q => hS b (Or.inl q)
  ol := Own.only ho h.ol fun b q => hS b (Or.inr (Or.inl q))
  row := fun j hj => Own.only ho (h.row j hj) fun b q => hS b (Or.inr (Or.inr ⟨j, hj, q⟩)) }
theorem ChSt.keep (h : ChSt w B g T tI tC vo vl vs s) (hk : Keeps w w') : ChSt w' B g T tI tC vo vl vs s := h.only (hk.only fun _ => False) (fun q => q) (fun _ _ q => q)
end
end Go.Proofs.YtnekiooaobnndaaDoor.BH
end
section
namespace Go.Proofs.YtnekiooaobnndaaDoor
open Go.RowKit BH
set_option maxHeartbeats 1000000
set_option maxRecDepth 100000

theorem lines_any (v : Value) (m : Img) (w : World) (hv : ImgAt w v m) :
  Calls Tryd.prog 41 #[v] w fun e w' => e = .returned (.int .i64 (linesFault m)) ∧ Keeps w w' := by
 obtain ⟨v0, v1, v2, v3, v4, rfl, ⟨ao0, c0, rfl, t1, t2, -, -⟩, -, -, -, ao, cap, rfl, h1, h2, -, h3⟩ := hv
 unfold maxLen at h2 t2
 obtain ⟨W1, hW1, hkW, hsW, i0, i1, i2, i3, i4, i5⟩ := box6 w 28 (.slice ao0 m.Text.length c0) v1 v2 v3 (.slice ao m.Lines.length cap) (.int .i64 m.Entry)
 have HW := Lib.hid hW1
 clear hW1 i1 i2 i3 i5
 by_cases hbig : 4000 < m.Lines.length
 ·have HF := Lib.hid (show linesFault m = 1 by unfold linesFault; rw [if_pos hbig])
  clear h3 i0 i4
  go_enter Tryd.func41, Tryd.ntmps41
  go_wp2
  go_ret
  exact ⟨by rw [HF.out]; rfl, (Keeps.refl _).alloc _⟩
 ·have HF := Lib.hid (show linesFault m = scan (lineBad m) 0 (m.Lines.length - 0) 0 by unfold linesFault; rw [if_neg hbig]; rfl)
  go_enter Tryd.func41, Tryd.ntmps41
  go_wp2
  rw [← HW.out]
  go_loopw [3, 5, 13] (fun s3 _ s13 wr => ∃ k : Nat, k ≤ m.Lines.length ∧ s3 = .int .i64 (lastAt m.Lines k) ∧ s13 = .int .i64 k ∧ Keeps W1 wr ∧ Hid (scan (lineBad m) 0 (m.Lines.length - k) k = linesFault m)) (fun _ _ i _ => m.Lines.length - (intOf i).toNat)
  case atStart => exact ⟨0, Nat.zero_le _, rfl, rfl, Keeps.refl _, HF.out.symm⟩
  case round =>
   obtain ⟨k, hk, rfl, rfl, hkeep, hscan⟩ := hrel
   have j0 := hkeep.cell i0
   have j4 := hkeep.cell i4
   have hkk := hkW.trans hkeep
   by_cases hlt : k < m.Lines.length
   ·obtain ⟨b, off, rfl, hc⟩ := h3 (by omega)
    have hc0 : wr.cell? ⟨b, off + k * 2, none⟩ = some (.int .i64 (nth m.Lines k).At) := hkk.cell (hc k 0 hlt (by omega))
    have hc1 : wr.cell? ⟨b, off + k * 2 + 1, none⟩ = some (.int .i64 (nth m.Lines k).N) := hkk.cell (hc k 1 hlt (by omega))
    have hin : w.heap.size < wr.heap.size := Nat.lt_of_lt_of_le hsW hkeep.size
    clear hc h3 i0 i4
    by_cases hb : lineBad m k = 0
    ·obtain ⟨g1, g2, g3, g4⟩ := lineBad_zero hb
     have HB := Lib.hid (scan_step hlt hb hscan.out)
     have g5 : decide ((nth m.Lines k).N < 0) = false := by simpa using g1
     have g6 : decide ((nth m.Lines k).At ≤ lastAt m.Lines k) = false := by simpa using g3
     clear hb hscan
     go_wp2
     go_roundw
     case rel => exact ⟨k + 1, by omega, rfl, by go_num, hkeep.alloc _, HB.out⟩
     case measure => simp [intOf]; omega
    ·have HB := Lib.hid (scan_stop hlt hb hscan.out)
     rcases lineBad_cases hb with ⟨hN, hv⟩ | ⟨hN, hA, hv⟩
     all_goals
      have HV := Lib.hid (HB.out.trans hv)
      clear hb hscan hv
      go_wp2
      all_goals first
       | (exfalso; omega)
       | (go_ret
          exact ⟨by rw [HV.out]; rfl, hkk.alloc _⟩)
   ·clear h3
    go_wp2
    go_ret
    refine ⟨?_, hkk⟩
    rw [scan_end (by omega) hscan.out]
    rfl
end Go.Proofs.YtnekiooaobnndaaDoor
end
section
namespace Go.Proofs.YtnekiooaobnndaaDoor
open Go.RowKit BH
set_option maxHeartbeats 1000000
set_option maxRecDepth 100000

theorem numsCopy_any (v : Value) (l : List Int) (w : World) (hv : Ints w v l) (hl : l.length * 8 ≤ 140737488355328) :
  Calls Tryd.prog 13 #[v] w (Gives (fun v' w' => Own w' w.heap.size 3 1 ci v' l) w) := by
 obtain ⟨ao, cap, rfl, h1, h2, -, h3⟩ := hv
 unfold maxLen at h2
 go_enter Tryd.func13, Tryd.ntmps13
 go_wp2_with fail
 go_loopw [3, 4] (fun s3 s4 wr => ∃ k : Nat, k ≤ l.length ∧ s4 = .int .i64 k ∧ Keeps w wr ∧ Own wr w.heap.size 3 1 ci s3 (l.take k)) (fun _ s4 _ => l.length - (intOf s4).toNat)
 case atStart => exact ⟨0, Nat.zero_le _, rfl, Keeps.refl _, Own.nil _ _ _ _ _⟩
 case round =>
  obtain ⟨k, hk, rfl, hkr, ho⟩ := hrel
  have HO := Lib.hid ho
  obtain ⟨a3, c3, e3⟩ := own_form' ho
  have hlen : (l.take k).length = k := by simp; omega
  have hsz := hkr.size
  clear ho
  by_cases hlt : k < l.length
  ·obtain ⟨b, off, rfl, hc⟩ := h3 (by omega)
   have c0 : wr.cell? ⟨b, off + k, none⟩ = some (.int .i64 (nth l k)) := hkr.cell (by simpa using hc k 0 hlt (by omega))
   have HS := Lib.hid (take_succ_nth l k hlt)
   generalize nth l k = x at *
   clear hc h3 e3
   go_wp2_with (at_builtin; refine wpList_pushes (by rfl) (.tmp 11) (.tmp 16) 25 (by rfl) Tryd.underlying25 info_int (by rfl) (by decide) (base := w.heap.size) (l := l.take k) (by rfl) (by exact HO.out.keep (by repeat (with_reducible (first | assumption | exact Keeps.refl _ | refine Keeps.alloc ?_ _ | refine Keeps.drew ?_ | refine Keeps.drewN ?_ _)))) [x] _ _ (by rfl) (by exact Blk.top' _ _ (by first | rfl | simp)) ci_len ci_one (by rw [hlen]; simp; omega) (by rw [hlen]; simp [maxLen]; omega) (by simp only [sz_alloc]; omega) ?_; intro v' w' hown hbel hgr hfr)
   rw [← HS.out] at hown
   have HW := Lib.hid hown
   have hkn : Keeps w w' := Keeps.trans' (hkr.alloc _) hbel (Nat.le_refl _)
   clear hown hbel hgr hfr
   go_wp2_with fail
   go_roundw
   case rel => exact ⟨k + 1, by omega, by go_num, hkn, HW.out⟩
   case measure => simp [intOf]; omega
  ·obtain rfl : k = l.length := by omega
   rw [List.take_length] at HO
   clear e3 h3 hlen
   go_wp2
   go_ret
   exact ⟨_, rfl, HO.out, hkr⟩
end Go.Proofs.YtnekiooaobnndaaDoor
end
