/-
The document's In: is a number from low to high? Closed fact
-/
import Derived.Test.YtgdamggkaklhjaaDoorProg
import Derived.Test.YtgdamggkaklhjaaDoorLift
import Derived.Lib.Hide
import Derived.Test.YtgdamggkaklhjaaDoorStab
import Derived.Test.YtgdamggkaklhjaaDoorRegTail
set_option linter.all false
section
namespace Go.Proofs.YtgdamggkaklhjaaDoor
open Go.RowKit BH

theorem in_yes (n lo hi : Int) (w : World) (h1 : lo ≤ n) (h2 : n ≤ hi) :
  Calls Tryd.prog 20 #[.int .i64 n, .int .i64 lo, .int .i64 hi] w fun e w' => e = .returned (.bool true) ∧ w = w' := by
 go_enter Tryd.func20, Tryd.ntmps20
 go_wp2
 go_ret
 exact ⟨by simp <;> omega, rfl⟩
theorem in_no (n lo hi : Int) (w : World) (h : n < lo ∨ hi < n) :
  Calls Tryd.prog 20 #[.int .i64 n, .int .i64 lo, .int .i64 hi] w fun e w' => e = .returned (.bool false) ∧ w = w' := by
 go_enter Tryd.func20, Tryd.ntmps20
 go_wp2
 all_goals
  go_ret
  exact ⟨by simp <;> omega, rfl⟩

end Go.Proofs.YtgdamggkaklhjaaDoor
end
section
namespace Go.Proofs.YtgdamggkaklhjaaDoor
theorem info_int : (Tryd.prog.info? 3).map (fun i => (i.zero, i.size, i.bytes)) = some (some (.int .i64 0), 1, 8) := by kernel_rfl
theorem info_u8 : (Tryd.prog.info? 5).map (fun i => (i.zero, i.size, i.bytes)) = some (some (.int .u8 0), 1, 1) := by kernel_rfl
theorem info_ints : (Tryd.prog.info? 25).map (fun i => (i.zero, i.size, i.bytes)) = some (some (.slice none 0 0), 1, 24) := by kernel_rfl
theorem info_line : (Tryd.prog.info? 42).map (fun i => (i.zero, i.size, i.bytes)) = some (some (.agg #[.int .i64 0, .int .i64 0]), 2, 16) := by kernel_rfl
theorem info_fun : (Tryd.prog.info? 40).map (fun i => (i.zero, i.size, i.bytes)) = some (some (.agg #[.string ByteArray.empty, .int .i64 0, .int .i64 0]), 3, 32) := by kernel_rfl
end Go.Proofs.YtgdamggkaklhjaaDoor
end
section
namespace Go.Proofs.YtgdamggkaklhjaaDoor.BH
open Go.RowKit

structure Ic where
 K : Int
 D : Int
 A : Int
 B : Int
 N : Int
 Lg : Bool
 deriving Inhabited
def Ic.c (x : Ic) : Nat → Value | 0 => .int .i64 x.K | 1 => .int .i64 x.D | 2 => .int .i64 x.A | 3 => .int .i64 x.B | 4 => .int .i64 x.N | _ => .bool x.Lg
def Instrs (w : World) (v : Value) (l : List Ic) : Prop := Arr w v l.length 6 (fun i j => (nth l i).c j)
structure Bk where
 Func : Int
 Start : Int
 Code : List Ic
 At : List Int
 Last : Ic
 Ends : Int
 To : Int
 Else : Int
 Lines : List Int
 deriving Inhabited
def Bk.c (x : Bk) (cv av lv : Value) : Nat → Value
 | 0 => .int .i64 x.Func | 1 => .int .i64 x.Start | 2 => cv | 3 => av
 | 4 => x.Last.c 0 | 5 => x.Last.c 1 | 6 => x.Last.c 2 | 7 => x.Last.c 3 | 8 => x.Last.c 4 | 9 => x.Last.c 5
 | 10 => .int .i64 x.Ends | 11 => .int .i64 x.To | 12 => .int .i64 x.Else | _ => lv
def Blocks (w : World) (v : Value) (l : List Bk) : Prop :=
 ∃ cv av lv : Nat → Value, Arr w v l.length 14 (fun i j => (nth l i).c (cv i) (av i) (lv i) j) ∧
  ∀ i, i < l.length → Instrs w (cv i) (nth l i).Code ∧ Ints w (av i) (nth l i).At ∧ Ints w (lv i) (nth l i).Lines
theorem Blocks.keep {w w' : World} {v : Value} {l : List Bk} (h : Blocks w v l) (hk : Keeps w w') : Blocks w' v l := by
 obtain ⟨cv, av, lv, h1, h2⟩ := h
 exact ⟨cv, av, lv, h1.keep hk, fun i hi => ⟨Arr.keep (h2 i hi).1 hk, Arr.keep (h2 i hi).2.1 hk, Arr.keep (h2 i hi).2.2 hk⟩⟩
structure Fl where
 Blocks : List Bk
 Tables : List (List Int)
 Firsts : List Int
 deriving Inhabited
def FlowAt (w : World) (v : Value) (f : Fl) : Prop := ∃ v0 v1 v2, v = .agg #[v0, v1, v2] ∧ Blocks w v0 f.Blocks ∧ Tabs w v1 f.Tables ∧ Ints w v2 f.Firsts
theorem FlowAt.keep {w w' : World} {v : Value} {f : Fl} (h : FlowAt w v f) (hk : Keeps w w') : FlowAt w' v f := by
 obtain ⟨v0, v1, v2, hv, h0, h1, h2⟩ := h
 exact ⟨v0, v1, v2, hv, h0.keep hk, h1.keep hk, Arr.keep h2 hk⟩
end Go.Proofs.YtgdamggkaklhjaaDoor.BH
end
section
namespace Go.Proofs.YtgdamggkaklhjaaDoor
open Go.RowKit BH

def lineAt (l : List Ln) (x : Int) : Nat → Int
 | 0 => 0
 | k + 1 => if (nth l k).At ≤ x then (nth l k).N else lineAt l x k

set_option maxHeartbeats 1000000
set_option maxRecDepth 100000
theorem lineAt_any (v : Value) (m : Img) (x : Int) (w : World) (hv : ImgAt w v m) :
  Calls Tryd.prog 59 #[v, .int .i64 x] w fun e w' => e = .returned (.int .i64 (lineAt m.Lines x m.Lines.length)) ∧ Keeps w w' := by
 obtain ⟨v0, v1, v2, v3, v4, rfl, -, -, -, -, ao, cap, rfl, h1, h2, -, h3⟩ := hv
 unfold maxLen at h2
 go_enter Tryd.func59, Tryd.ntmps59
 go_wp2
 go_loopw [5, 7, 11] (fun n _ i wr => ∃ k : Nat, k ≤ m.Lines.length ∧ i = .int .i64 k ∧ n = .int .i64 (lineAt m.Lines x k) ∧ Keeps w wr) (fun _ _ i _ => m.Lines.length - (intOf i).toNat)
 case atStart => exact ⟨0, Nat.zero_le _, rfl, rfl, (Keeps.refl _).alloc _⟩
 case round =>
 obtain ⟨k, hk, rfl, rfl, H0⟩ := hrel
 by_cases hlt : k < m.Lines.length
 ·obtain ⟨b, H1, rfl, hc⟩ := h3 jo
  have hc0 := jc wr b (H1 + k * 2) ((nth m.Lines k).At) (H0.cell (hc k 0 hlt jo))
  have hc1 := jc wr b (H1 + k * 2 + 1) ((nth m.Lines k).N) (H0.cell (hc k 1 hlt jo))
  clear hc h3
  go_wp2
  all_goals
   go_roundw
   case rel => exact ⟨k + 1, by omega, by go_num, by simp only [lineAt]; first | rw [if_pos (by assumption)] | rw [if_neg jo], H0.alloc _⟩
   case measure => exact jm
 clear h3
 go_wp2
 go_ret
 obtain rfl : k = m.Lines.length := by omega
 exact ⟨rfl, H0⟩

theorem lineOf_any (v : Value) (m : Img) (x : Int) (w : World) (hv : ImgAt w v m) :
  Calls Tryd.prog 42 #[v, .int .i64 x] w fun e w' => e = .returned (.int .i64 (lineAt m.Lines x m.Lines.length)) ∧ Keeps w w' := by
 obtain ⟨v0, v1, v2, v3, v4, rfl, -, -, -, -, ao, H2, rfl, h1, h2, -, h3⟩ := hv
 unfold maxLen at h2
 go_enter Tryd.func42, Tryd.ntmps42
 go_wp2
 go_loopw [5, 6] (fun n i wr => ∃ k : Nat, k ≤ m.Lines.length ∧ i = .int .i64 k ∧ n = .int .i64 (lineAt m.Lines x k) ∧ Keeps w wr ∧ wr.cell? ⟨w.heap.size, 4, none⟩ = some (.slice ao m.Lines.length H2)) (fun _ i _ => m.Lines.length - (intOf i).toNat)
 case atStart => exact ⟨0, Nat.zero_le _, rfl, rfl, (Keeps.refl _).alloc _, by simp⟩
 case round =>
 obtain ⟨k, hk, rfl, rfl, H0, hm⟩ := hrel
 by_cases hlt : k < m.Lines.length
 ·obtain ⟨b, H1, rfl, hc⟩ := h3 jo
  have hc0 := jc wr b (H1 + k * 2) ((nth m.Lines k).At) (H0.cell (hc k 0 hlt jo))
  have hc1 := jc wr b (H1 + k * 2 + 1) ((nth m.Lines k).N) (H0.cell (hc k 1 hlt jo))
  clear hc h3
  go_wp2
  all_goals
   go_roundw
   case rel => exact ⟨k + 1, by omega, by go_num, by simp only [lineAt]; first | rw [if_pos (by assumption)] | rw [if_neg jo], H0, hm⟩
   case measure => exact jm
 clear h3
 go_wp2
 go_ret
 obtain rfl : k = m.Lines.length := by omega
 exact ⟨rfl, H0⟩
end Go.Proofs.YtgdamggkaklhjaaDoor
end
section
namespace Go.Proofs.YtgdamggkaklhjaaDoor
open Go.Sort
variable {α : Type}
theorem sort_unique {lt : α → α → Bool} (S : SWO lt) (l : List α) (T : List (α × Nat)) (hp : T.Perm l.zipIdx) (hs : T.Pairwise (fun x y => List.zipIdxLE (leOf lt) x y = true)) : T.map Prod.fst = l.mergeSort (leOf lt) := by
 have H0 : ∀ a b c : α, leOf lt a b → leOf lt b c → leOf lt a c := fun a b c h1 h2 => by simp only [leOf, Bool.not_eq_true'] at h1 h2 ⊢; exact S.ntrans c b a h2 h1
 have H1 : ∀ a b : α, leOf lt a b || leOf lt b a := fun a b => by
  unfold leOf
  cases h : lt b a with
  | false => simp
  | true => simp [S.asymmA h]
 have key : T = l.zipIdx.mergeSort (List.zipIdxLE (leOf lt)) := by
  refine List.Perm.eq_of_pairwise (le := fun x y => List.zipIdxLE (leOf lt) x y = true) ?_ hs (List.pairwise_mergeSort (List.zipIdxLE_trans H0) (List.zipIdxLE_total H1) _) (hp.trans (List.mergeSort_perm _ _).symm)
  intro a b ha hb h1 h2
  have H2 : a ∈ l.zipIdx := hp.mem_iff.1 ha
  have H3 : b ∈ l.zipIdx := List.mem_mergeSort.1 hb
  unfold List.zipIdxLE at h1 h2
  have e : a.2 = b.2 := by
   cases p : leOf lt a.1 b.1 <;> cases q : leOf lt b.1 a.1 <;> simp_all
   omega
  obtain ⟨x, i⟩ := a
  obtain ⟨y, j⟩ := b
  have m1 := List.mem_zipIdx H2
  have m2 := List.mem_zipIdx H3
  simp only at e m1 m2
  subst e
  have : x = y := m1.2.2.trans m2.2.2.symm
  rw [this]
 rw [key]
 exact List.mergeSort_zipIdx
section
open BH
variable [Inhabited α]
def ahead2 (lt : α → α → Bool) (l : List α) (i j : Nat) : Prop := List.zipIdxLE (leOf lt) (nth l i, i) (nth l j, j) = true
structure Picks (lt : α → α → Bool) (l : List α) (ps : List Nat) : Prop where
 nodup : ps.Nodup
 bnd : ∀ p, p ∈ ps → p < l.length
 pair : ps.Pairwise (ahead2 lt l)
 left : ∀ p, p ∈ ps → ∀ j, j < l.length → j ∉ ps → ahead2 lt l p j
theorem Picks.nil (lt : α → α → Bool) (l : List α) : Picks lt l [] := ⟨List.nodup_nil, (by intro p h; cases h), List.Pairwise.nil, (by intro p h; cases h)⟩
theorem Picks.step {lt : α → α → Bool} {l : List α} {ps : List Nat} (h : Picks lt l ps) {b : Nat} (hb : b < l.length) (hn : b ∉ ps) (hm : ∀ j, j < l.length → j ∉ ps → j ≠ b → ahead2 lt l b j) : Picks lt l (ps ++ [b]) := by
 refine ⟨?_, ?_, ?_, ?_⟩
 ·rw [List.nodup_append]
  exact ⟨h.nodup, by simp, fun a ha c hc e => by simp only [List.mem_singleton] at hc; subst hc; subst e; exact hn ha⟩
 ·intro p hp
  rcases List.mem_append.1 hp with hp | hp
  ·exact h.bnd p hp
  simp only [List.mem_singleton] at hp; subst hp; exact hb
 ·rw [List.pairwise_append]
  exact ⟨h.pair, List.pairwise_singleton _ _, fun a ha c hc => by simp only [List.mem_singleton] at hc; subst hc; exact h.left a ha _ hb hn⟩
 intro p hp j hj H0
 have H1 : j ∉ ps := fun e => H0 (List.mem_append_left _ e)
 have H2 : j ≠ b := fun e => H0 (by subst e; simp)
 rcases List.mem_append.1 hp with hp | hp
 ·exact h.left p hp j hj H1
 simp only [List.mem_singleton] at hp; subst hp; exact hm j hj H1 H2
theorem Picks.done {lt : α → α → Bool} (S : SWO lt) {l : List α} {ps : List Nat} (h : Picks lt l ps) (hl : ps.length = l.length) : ps.map (nth l) = l.mergeSort (leOf lt) := by
 have H0 : ps.Perm (List.range l.length) := by
  refine (List.perm_ext_iff_of_nodup h.nodup List.nodup_range).2 fun j => ⟨fun hj => List.mem_range.2 (h.bnd j hj), fun hj => ?_⟩
  by_cases hc : j ∈ ps
  ·exact hc
  exfalso
  have := List.Nodup.length_le_of_subset (List.nodup_cons.2 ⟨hc, h.nodup⟩) (l₂ := List.range l.length) (fun x hx => by
   rcases List.mem_cons.1 hx with e | hx
   ·rw [e]; exact hj
   exact List.mem_range.2 (h.bnd x hx))
  rw [List.length_cons, List.length_range] at this
  omega
 have h1 := sort_unique S l (ps.map fun i => (nth l i, i)) (by
  refine (H0.map _).trans (List.Perm.of_eq ?_)
  apply List.ext_getElem
  ·simp
  ·intro i h1 h2
   simp only [List.length_map, List.length_range] at h1
   simp [nth_eq l i h1]) (by
  rw [List.pairwise_map]
  exact h.pair)
 rw [← h1, List.map_map]
 rfl
end
end Go.Proofs.YtgdamggkaklhjaaDoor
end
section
namespace Go
variable {P : Program} {Q : Exit → Act → World → Prop} {S : World → Prop}
theorem wp_region_head {id : Nat} {a : Act} {w : World} {l : List Oper} (n : Nat) (hm : P.follows .mixedOrders = true)
  (hb : backB .any l.toArray n = true) (hs : sinkX .any l.toArray n (n + 1) = true) (hc : Region.chainB .any l.toArray n = true) (hn : n < l.toArray.size)
  (hseq : Region.seqB .any l.toArray (l.drop n).length n (Array.replicate n true ++ Array.replicate (l.toArray.size - n) false) = true) (hS : S w.drew)
  (h : S w.drew → wpAnyH P .any (l.take n).toArray (TailQ P l.toArray Q (l.drop n)) S n (Array.replicate n false) a w.drew) : (Code.region id l.toArray true).wp P Q a w := by
 refine wp_region_any hm ?_
 have h0 : HT .any l n (Array.replicate l.toArray.size false) (Array.replicate n false) :=
  ⟨⟨by simp, fun j oj _ hl => (by rw [getD_replicate_false] at hl; cases hl), fun t _ ht => getD_in (by simpa using ht) (getD_replicate_false _ _)⟩, by simp, fun i hi => by (have h1 : i < l.length := by have := hn; simp at this; omega); (rw [Array.getElem?_eq_getElem (by simpa using h1), Array.getElem?_eq_getElem (by simpa using hi)]); simp⟩
 have H := wpAny_of_headH (P := P) (Q := Q) (S := S) hb hs hc hn hseq n _ _ a w.drew h0 (fun q => absurd q (by omega)) (h hS)
 have e : n + (l.drop n).length = l.toArray.size := by simp only [List.length_drop, List.size_toArray] at *; omega
 rw [← e]
 rw [← e] at H
 exact H
end Go
end
