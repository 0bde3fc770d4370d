/-
 What a slice, a string and a struct of plain data look like in memory, said of cells; and that it stays so while only new memory is made. No program is named here.
 The document's In: is a number from low to high?
 Closed facts on the types of the translation: how many cells and bytes an element has, and its zero.
 What a flow (blocks, tables, firsts) looks like in memory. No program is named here.
 image.LineAt and the document's LineOf answer the same: the N of the last line whose At is not above the address.
 A region that draws its order, all of whose first operations are waited for by the others, which stand in a row: the first ones in whatever order under a condition, then the rest as a list. No program is named here.
-/
import Derived.WalkKit
import Derived.WalkSpells
import Derived.WalkLawsBesides
import Derived.Deep.Slices
import Derived.Deep.Strs
import Derived.Test.YtnekiooaobnndaaDoorProg
import Derived.Lib.Hide
import Derived.KernelRfl
import Derived.Test.YtnekiooaobnndaaDoorRegTail
section
namespace Go.Proofs.YtnekiooaobnndaaDoor.BH
open Go.RowKit

/-- The element of a list at a place; simp does not look into it. -/
def nth {α : Type} [Inhabited α] (l : List α) (i : Nat) : α := l.getD i default

theorem nth_eq {α : Type} [Inhabited α] (l : List α) (i : Nat) (h : i < l.length) : nth l i = l[i] := by
 simp [nth, h]
theorem take_succ_nth {α : Type} [Inhabited α] (l : List α) (i : Nat) (h : i < l.length) : l.take (i + 1) = l.take i ++ [nth l i] := by
 rw [nth_eq l i h, List.take_succ_eq_append_getElem h]
theorem drop_nth {α : Type} [Inhabited α] (l : List α) (i : Nat) (h : i < l.length) : l.drop i = nth l i :: l.drop (i + 1) := by
 rw [nth_eq l i h, List.drop_eq_getElem_cons h]

/-- The world w' is w with more: all that was there is as it was. -/
def Keeps (w w' : World) : Prop := Below w.heap.size w w'
theorem sz_alloc (w : World) (o : Obj) : (w.alloc o).heap.size = w.heap.size + 1 := Array.size_push _
theorem sz_drew (w : World) : w.drew.heap.size = w.heap.size := rfl
theorem sz_drewN (w : World) (n : Nat) : (w.drewN n).heap.size = w.heap.size := rfl
theorem sz_setCell (w : World) (p : Addr) (u : Value) : (w.setCell p u).heap.size = w.heap.size := by simp
theorem Keeps.refl (w : World) : Keeps w w := Below.refl _ _
theorem Keeps.trans {a b c : World} (h : Keeps a b) (k : Keeps b c) : Keeps a c := Below.trans h (Below.mono k h.size)
theorem Keeps.alloc {a w : World} (h : Keeps a w) (o : Obj) : Keeps a (w.alloc o) := Below.alloc h h.size o
theorem Keeps.drew {a w : World} (h : Keeps a w) : Keeps a w.drew := Below.drew h
theorem Keeps.drewN {a w : World} (h : Keeps a w) (n : Nat) : Keeps a (w.drewN n) := Below.trans h ⟨rfl, rfl, rfl, Nat.le_refl _, fun _ _ => rfl⟩
theorem Keeps.undrew {w w1 : World} (h : Keeps w.drew w1) : Keeps w w1 := Keeps.trans (Keeps.drew (Keeps.refl w)) h
theorem Keeps.undrewN {w w1 : World} {n : Nat} (h : Keeps (w.drewN n) w1) : Keeps w w1 := Keeps.trans (Keeps.drewN (Keeps.refl w) n) h
theorem Keeps.setCell {a w : World} (h : Keeps a w) {p : Addr} (hp : a.heap.size ≤ p.block) (u : Value) : Keeps a (w.setCell p u) := Below.setCell h hp u
theorem Keeps.trans' {a w w' : World} (h : Keeps a w) {B : Nat} (hb : Below B w w') (hB : a.heap.size ≤ B) : Keeps a w' := Below.trans h (Below.mono hb hB)
theorem lt_of_cell {w : World} {p : Addr} {v : Value} (h : w.cell? p = some v) : p.block < w.heap.size := by
 by_cases hb : p.block < w.heap.size
 ·exact hb
 ·simp [World.cell?, Array.getElem?_eq_none (Nat.le_of_not_lt hb)] at h
theorem Keeps.cell {w w' : World} (h : Keeps w w') {p : Addr} {v : Value} (hc : w.cell? p = some v) : w'.cell? p = some v :=
 (Below.cell h (lt_of_cell hc)).trans hc
theorem Keeps.frozen {w w' : World} (h : Keeps w w') {p : Addr} (hp : p.block < w.heap.size) : w'.frozen? p = w.frozen? p := Below.frozen h hp
/-- as two rules for the walk -/
theorem bcell {W w1 : World} (hb : Keeps W w1) : (∀ b o, b < W.heap.size → w1.cell? ⟨b, o, none⟩ = W.cell? ⟨b, o, none⟩) ∧ (∀ b o, b < W.heap.size → w1.frozen? ⟨b, o, none⟩ = W.frozen? ⟨b, o, none⟩) :=
 ⟨fun b o h => Below.cell hb (p := ⟨b, o, none⟩) h, fun b o h => Below.frozen hb (p := ⟨b, o, none⟩) h⟩
theorem lt_top {w w1 : World} {o : Obj} (h : Keeps (w.alloc o) w1) : w.heap.size < w1.heap.size := by have := Below.size h; rw [sz_alloc] at this; omega
/-- the block that was made just ahead of a call -/
theorem bcell_top {w w1 : World} {c : Array Value} {e : TypeId} (h : Keeps (w.alloc (.cells c e)) w1) : (∀ o, w1.cell? ⟨w.heap.size, o, none⟩ = (w.alloc (.cells c e)).cell? ⟨w.heap.size, o, none⟩) ∧ (∀ o, w1.frozen? ⟨w.heap.size, o, none⟩ = (w.alloc (.cells c e)).frozen? ⟨w.heap.size, o, none⟩) :=
 ⟨fun o => (bcell h).1 _ o (by rw [sz_alloc]; omega), fun o => (bcell h).2 _ o (by rw [sz_alloc]; omega)⟩
theorem Keeps.size {w w' : World} (h : Keeps w w') : w.heap.size ≤ w'.heap.size := Below.size h

/-- The call returns one value, of which P holds in the world that it leaves; all that was there is as it was. -/
def Gives (P : Value → World → Prop) (w : World) (e : Ending) (w' : World) : Prop := ∃ v, e = .returned v ∧ P v w' ∧ Keeps w w'

/-- v is a slice of n elements, each of k cells; cell j of element i holds 'c i j'. -/
def Arr (w : World) (v : Value) (n k : Nat) (c : Nat → Nat → Value) : Prop :=
 ∃ (ao : Option Addr) (cap : Nat), v = .slice ao n cap ∧ n ≤ cap ∧ cap ≤ maxLen ∧ (ao = none → cap = 0) ∧
  (0 < n → ∃ b off, ao = some ⟨b, off, none⟩ ∧ ∀ i j, i < n → j < k → w.cell? ⟨b, off + i * k + j, none⟩ = some (c i j))
theorem Arr.form {w : World} {v : Value} {n k : Nat} {c : Nat → Nat → Value} (h : Arr w v n k c) : ∃ ao cap, v = .slice ao n cap := by
 obtain ⟨ao, cap, hv, _⟩ := h
 exact ⟨ao, cap, hv⟩
theorem Arr.keep {w w' : World} {v : Value} {n k : Nat} {c : Nat → Nat → Value} (h : Arr w v n k c) (hk : Keeps w w') : Arr w' v n k c := by
 obtain ⟨ao, cap, hv, h1, h2, h4, h3⟩ := h
 refine ⟨ao, cap, hv, h1, h2, h4, fun hn => ?_⟩
 obtain ⟨b, off, ha, hc⟩ := h3 hn
 exact ⟨b, off, ha, fun i j hi hj => hk.cell (hc i j hi hj)⟩
theorem Arr.congr {w : World} {v : Value} {n k : Nat} {c d : Nat → Nat → Value} (h : Arr w v n k c) (hcd : ∀ i j, i < n → j < k → c i j = d i j) : Arr w v n k d := by
 obtain ⟨ao, cap, hv, h1, h2, h4, h3⟩ := h
 refine ⟨ao, cap, hv, h1, h2, h4, fun hn => ?_⟩
 obtain ⟨b, off, ha, hc⟩ := h3 hn
 exact ⟨b, off, ha, fun i j hi hj => by rw [hc i j hi hj, hcd i j hi hj]⟩

/-- a slice of ints -/
def Ints (w : World) (v : Value) (l : List Int) : Prop := Arr w v l.length 1 (fun i _ => .int .i64 (nth l i))
/-- a slice of bytes -/
def Bytes (w : World) (v : Value) (l : List UInt8) : Prop := Arr w v l.length 1 (fun i _ => .int .u8 ((nth l i).toNat : Int))

structure Ln where
 At : Int
 N : Int
 deriving Inhabited
structure Ed where
 From : Int
 To : Int
 Count : Int
 deriving Inhabited
structure Fu where
 Name : ByteArray
 Start : Int
 Size : Int
 deriving Inhabited
def Ln.c (x : Ln) : Nat → Value | 0 => .int .i64 x.At | _ => .int .i64 x.N
def Ed.c (x : Ed) : Nat → Value | 0 => .int .i64 x.From | 1 => .int .i64 x.To | _ => .int .i64 x.Count
def Fu.c (x : Fu) : Nat → Value | 0 => .string x.Name | 1 => .int .i64 x.Start | _ => .int .i64 x.Size
def Lines (w : World) (v : Value) (l : List Ln) : Prop := Arr w v l.length 2 (fun i j => (nth l i).c j)
def Funs (w : World) (v : Value) (l : List Fu) : Prop := Arr w v l.length 3 (fun i j => (nth l i).c j)
def Tabs (w : World) (v : Value) (l : List (List Int)) : Prop :=
 ∃ tv : Nat → Value, Arr w v l.length 1 (fun i _ => tv i) ∧ ∀ i, i < l.length → Ints w (tv i) (nth l i)
theorem Tabs.keep {w w' : World} {v : Value} {l : List (List Int)} (h : Tabs w v l) (hk : Keeps w w') : Tabs w' v l := by
 obtain ⟨tv, h1, h2⟩ := h
 exact ⟨tv, h1.keep hk, fun i hi => (h2 i hi).keep hk⟩

structure Img where
 Text : List UInt8
 Funcs : List Fu
 Tables : List (List Int)
 Data : List Int
 Lines : List Ln
 Entry : Int
 deriving Inhabited
def ImgAt (w : World) (v : Value) (m : Img) : Prop :=
 ∃ v0 v1 v2 v3 v4, v = .agg #[v0, v1, v2, v3, v4, .int .i64 m.Entry] ∧ Bytes w v0 m.Text ∧ Funs w v1 m.Funcs ∧ Tabs w v2 m.Tables ∧ Ints w v3 m.Data ∧ Lines w v4 m.Lines
theorem ImgAt.keep {w w' : World} {v : Value} {m : Img} (h : ImgAt w v m) (hk : Keeps w w') : ImgAt w' v m := by
 obtain ⟨v0, v1, v2, v3, v4, hv, h0, h1, h2, h3, h4⟩ := h
 exact ⟨v0, v1, v2, v3, v4, hv, Arr.keep h0 hk, Arr.keep h1 hk, h2.keep hk, Arr.keep h3 hk, Arr.keep h4 hk⟩

end Go.Proofs.YtnekiooaobnndaaDoor.BH
end
section
namespace Go.Proofs.YtnekiooaobnndaaDoor
open Go.RowKit BH

theorem in_yes (n lo hi : Int) (w : World) (h1 : lo ≤ n) (h2 : n ≤ hi) :
  Calls Tryd.prog 23 #[.int .i64 n, .int .i64 lo, .int .i64 hi] w fun e w' => e = .returned (.bool true) ∧ w = w' := by
 go_enter Tryd.func23, Tryd.ntmps23
 go_wp2
 go_ret
 exact ⟨by simp <;> omega, rfl⟩
theorem in_no (n lo hi : Int) (w : World) (h : n < lo ∨ hi < n) :
  Calls Tryd.prog 23 #[.int .i64 n, .int .i64 lo, .int .i64 hi] w fun e w' => e = .returned (.bool false) ∧ w = w' := by
 go_enter Tryd.func23, Tryd.ntmps23
 go_wp2
 all_goals
  go_ret
  exact ⟨by simp <;> omega, rfl⟩

end Go.Proofs.YtnekiooaobnndaaDoor
end
section
namespace Go.Proofs.YtnekiooaobnndaaDoor
theorem info_int : (Tryd.prog.info? 3).map (fun i => (i.zero, i.size, i.bytes)) = some (some (.int .i64 0), 1, 8) := by kernel_rfl
theorem info_u8 : (Tryd.prog.info? 5).map (fun i => (i.zero, i.size, i.bytes)) = some (some (.int .u8 0), 1, 1) := by kernel_rfl
theorem info_ints : (Tryd.prog.info? 25).map (fun i => (i.zero, i.size, i.bytes)) = some (some (.slice none 0 0), 1, 24) := by kernel_rfl
theorem info_line : (Tryd.prog.info? 49).map (fun i => (i.zero, i.size, i.bytes)) = some (some (.agg #[.int .i64 0, .int .i64 0]), 2, 16) := by kernel_rfl
theorem info_fun : (Tryd.prog.info? 47).map (fun i => (i.zero, i.size, i.bytes)) = some (some (.agg #[.string ByteArray.empty, .int .i64 0, .int .i64 0]), 3, 32) := by kernel_rfl
end Go.Proofs.YtnekiooaobnndaaDoor
end
section
namespace Go.Proofs.YtnekiooaobnndaaDoor.BH
open Go.RowKit

/-- an instruction, as it lies in a block -/
structure Ic where
 K : Int
 D : Int
 A : Int
 B : Int
 N : Int
 Lg : Bool
 deriving Inhabited
def Ic.c (x : Ic) : Nat → Value | 0 => .int .i64 x.K | 1 => .int .i64 x.D | 2 => .int .i64 x.A | 3 => .int .i64 x.B | 4 => .int .i64 x.N | _ => .bool x.Lg
def Instrs (w : World) (v : Value) (l : List Ic) : Prop := Arr w v l.length 6 (fun i j => (nth l i).c j)
structure Bk where
 Func : Int
 Start : Int
 Code : List Ic
 At : List Int
 Last : Ic
 Ends : Int
 To : Int
 Else : Int
 Lines : List Int
 deriving Inhabited
def Bk.c (x : Bk) (cv av lv : Value) : Nat → Value
 | 0 => .int .i64 x.Func | 1 => .int .i64 x.Start | 2 => cv | 3 => av
 | 4 => x.Last.c 0 | 5 => x.Last.c 1 | 6 => x.Last.c 2 | 7 => x.Last.c 3 | 8 => x.Last.c 4 | 9 => x.Last.c 5
 | 10 => .int .i64 x.Ends | 11 => .int .i64 x.To | 12 => .int .i64 x.Else | _ => lv
def Blocks (w : World) (v : Value) (l : List Bk) : Prop :=
 ∃ cv av lv : Nat → Value, Arr w v l.length 14 (fun i j => (nth l i).c (cv i) (av i) (lv i) j) ∧
  ∀ i, i < l.length → Instrs w (cv i) (nth l i).Code ∧ Ints w (av i) (nth l i).At ∧ Ints w (lv i) (nth l i).Lines
theorem Blocks.keep {w w' : World} {v : Value} {l : List Bk} (h : Blocks w v l) (hk : Keeps w w') : Blocks w' v l := by
 obtain ⟨cv, av, lv, h1, h2⟩ := h
 exact ⟨cv, av, lv, h1.keep hk, fun i hi => ⟨Arr.keep (h2 i hi).1 hk, Arr.keep (h2 i hi).2.1 hk, Arr.keep (h2 i hi).2.2 hk⟩⟩
structure Fl where
 Blocks : List Bk
 Tables : List (List Int)
 Firsts : List Int
 deriving Inhabited
def FlowAt (w : World) (v : Value) (f : Fl) : Prop := ∃ v0 v1 v2, v = .agg #[v0, v1, v2] ∧ Blocks w v0 f.Blocks ∧ Tabs w v1 f.Tables ∧ Ints w v2 f.Firsts
theorem FlowAt.keep {w w' : World} {v : Value} {f : Fl} (h : FlowAt w v f) (hk : Keeps w w') : FlowAt w' v f := by
 obtain ⟨v0, v1, v2, hv, h0, h1, h2⟩ := h
 exact ⟨v0, v1, v2, hv, h0.keep hk, h1.keep hk, Arr.keep h2 hk⟩
end Go.Proofs.YtnekiooaobnndaaDoor.BH
end
section
namespace Go.Proofs.YtnekiooaobnndaaDoor
open Go.RowKit BH

def lineAt (l : List Ln) (x : Int) : Nat → Int
 | 0 => 0
 | k + 1 => if (nth l k).At ≤ x then (nth l k).N else lineAt l x k

set_option maxHeartbeats 1000000
set_option maxRecDepth 100000
theorem lineAt_any (v : Value) (m : Img) (x : Int) (w : World) (hv : ImgAt w v m) :
  Calls Tryd.prog 49 #[v, .int .i64 x] w fun e w' => e = .returned (.int .i64 (lineAt m.Lines x m.Lines.length)) ∧ Keeps w w' := by
 obtain ⟨v0, v1, v2, v3, v4, rfl, -, -, -, -, ao, cap, rfl, h1, h2, -, h3⟩ := hv
 unfold maxLen at h2
 go_enter Tryd.func49, Tryd.ntmps49
 go_wp2
 go_loopw [5, 7, 11] (fun n _ i wr => ∃ k : Nat, k ≤ m.Lines.length ∧ i = .int .i64 k ∧ n = .int .i64 (lineAt m.Lines x k) ∧ Keeps w wr) (fun _ _ i _ => m.Lines.length - (intOf i).toNat)
 case atStart => exact ⟨0, Nat.zero_le _, rfl, rfl, (Keeps.refl _).alloc _⟩
 case round =>
  obtain ⟨k, hk, rfl, rfl, hkeep⟩ := hrel
  by_cases hlt : k < m.Lines.length
  ·obtain ⟨b, off, rfl, hc⟩ := h3 (by omega)
   have hc0 : wr.cell? ⟨b, off + k * 2, none⟩ = some (.int .i64 (nth m.Lines k).At) := hkeep.cell (hc k 0 hlt (by omega))
   have hc1 : wr.cell? ⟨b, off + k * 2 + 1, none⟩ = some (.int .i64 (nth m.Lines k).N) := hkeep.cell (hc k 1 hlt (by omega))
   clear hc h3
   go_wp2
   all_goals
    go_roundw
    case rel => exact ⟨k + 1, by omega, by go_num, by simp only [lineAt]; first | rw [if_pos (by assumption)] | rw [if_neg (by omega)], hkeep.alloc _⟩
    case measure => simp [intOf]; omega
  ·clear h3
   go_wp2
   go_ret
   obtain rfl : k = m.Lines.length := by omega
   exact ⟨rfl, hkeep⟩

theorem lineOf_any (v : Value) (m : Img) (x : Int) (w : World) (hv : ImgAt w v m) :
  Calls Tryd.prog 25 #[v, .int .i64 x] w fun e w' => e = .returned (.int .i64 (lineAt m.Lines x m.Lines.length)) ∧ Keeps w w' := by
 obtain ⟨v0, v1, v2, v3, v4, rfl, -, -, -, -, ao, cap, rfl, h1, h2, -, h3⟩ := hv
 unfold maxLen at h2
 go_enter Tryd.func25, Tryd.ntmps25
 go_wp2
 go_loopw [5, 6] (fun n i wr => ∃ k : Nat, k ≤ m.Lines.length ∧ i = .int .i64 k ∧ n = .int .i64 (lineAt m.Lines x k) ∧ Keeps w wr ∧ wr.cell? ⟨w.heap.size, 4, none⟩ = some (.slice ao m.Lines.length cap)) (fun _ i _ => m.Lines.length - (intOf i).toNat)
 case atStart => exact ⟨0, Nat.zero_le _, rfl, rfl, (Keeps.refl _).alloc _, by simp⟩
 case round =>
  obtain ⟨k, hk, rfl, rfl, hkeep, hm⟩ := hrel
  by_cases hlt : k < m.Lines.length
  ·obtain ⟨b, off, rfl, hc⟩ := h3 (by omega)
   have hc0 : wr.cell? ⟨b, off + k * 2, none⟩ = some (.int .i64 (nth m.Lines k).At) := hkeep.cell (hc k 0 hlt (by omega))
   have hc1 : wr.cell? ⟨b, off + k * 2 + 1, none⟩ = some (.int .i64 (nth m.Lines k).N) := hkeep.cell (hc k 1 hlt (by omega))
   clear hc h3
   go_wp2
   all_goals
    go_roundw
    case rel => exact ⟨k + 1, by omega, by go_num, by simp only [lineAt]; first | rw [if_pos (by assumption)] | rw [if_neg (by omega)], hkeep, hm⟩
    case measure => simp [intOf]; omega
  ·clear h3
   go_wp2
   go_ret
   obtain rfl : k = m.Lines.length := by omega
   exact ⟨rfl, hkeep⟩
end Go.Proofs.YtnekiooaobnndaaDoor
end
section
namespace Go
variable {P : Program} {Q : Exit → Act → World → Prop} {S : World → Prop}
theorem wp_region_head {id : Nat} {a : Act} {w : World} {l : List Oper} (n : Nat) (hm : P.follows .mixedOrders = true)
  (hb : backB .any l.toArray n = true) (hs : sinkX .any l.toArray n (n + 1) = true) (hc : Region.chainB .any l.toArray n = true) (hn : n < l.toArray.size)
  (hseq : Region.seqB .any l.toArray (l.drop n).length n (Array.replicate n true ++ Array.replicate (l.toArray.size - n) false) = true) (hS : S w.drew)
  (h : S w.drew → wpAnyH P .any (l.take n).toArray (TailQ P l.toArray Q (l.drop n)) S n (Array.replicate n false) a w.drew) : (Code.region id l.toArray true).wp P Q a w := by
 refine wp_region_any hm ?_
 have h0 : HT .any l n (Array.replicate l.toArray.size false) (Array.replicate n false) :=
  ⟨⟨by simp, fun j oj _ hl => (by rw [getD_replicate_false] at hl; cases hl), fun t _ ht => getD_in (by simpa using ht) (getD_replicate_false _ _)⟩, by simp, fun i hi => by
   have h1 : i < l.length := by have := hn; simp at this; omega
   rw [Array.getElem?_eq_getElem (by simpa using h1), Array.getElem?_eq_getElem (by simpa using hi)]
   simp⟩
 have H := wpAny_of_headH (P := P) (Q := Q) (S := S) hb hs hc hn hseq n _ _ a w.drew h0 (fun q => absurd q (by omega)) (h hS)
 have e : n + (l.drop n).length = l.toArray.size := by simp only [List.length_drop, List.size_toArray] at *; omega
 rw [← e]
 rw [← e] at H
 exact H
end Go
end
