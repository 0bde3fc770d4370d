/-
  What a slice, a string and a struct of plain data look like in memory, said of cells; and that it stays so while only new memory is made. No program is named here.
-/
import Derived.WalkKit
import Derived.WalkSpells
import Derived.WalkLawsBesides
import Derived.Deep.Slices
import Derived.Deep.Strs
namespace Go.Proofs.YtjnhiiidcjajbaaGreatDoor.BH
open Go.RowKit

/-- The element of a list at a place; simp does not look into it. -/
def nth {α : Type} [Inhabited α] (l : List α) (i : Nat) : α := l.getD i default

theorem nth_eq {α : Type} [Inhabited α] (l : List α) (i : Nat) (h : i < l.length) : nth l i = l[i] := by
  simp [nth, h]
theorem take_succ_nth {α : Type} [Inhabited α] (l : List α) (i : Nat) (h : i < l.length) : l.take (i + 1) = l.take i ++ [nth l i] := by
  rw [nth_eq l i h, List.take_succ_eq_append_getElem h]
theorem drop_nth {α : Type} [Inhabited α] (l : List α) (i : Nat) (h : i < l.length) : l.drop i = nth l i :: l.drop (i + 1) := by
  rw [nth_eq l i h, List.drop_eq_getElem_cons h]

/-- The world w' is w with more: all that was there is as it was. -/
def Keeps (w w' : World) : Prop := Below w.heap.size w w'
theorem sz_alloc (w : World) (o : Obj) : (w.alloc o).heap.size = w.heap.size + 1 := Array.size_push _
theorem sz_drew (w : World) : w.drew.heap.size = w.heap.size := rfl
theorem sz_drewN (w : World) (n : Nat) : (w.drewN n).heap.size = w.heap.size := rfl
theorem sz_setCell (w : World) (p : Addr) (u : Value) : (w.setCell p u).heap.size = w.heap.size := by simp
theorem Keeps.refl (w : World) : Keeps w w := Below.refl _ _
theorem Keeps.trans {a b c : World} (h : Keeps a b) (k : Keeps b c) : Keeps a c := Below.trans h (Below.mono k h.size)
theorem Keeps.alloc {a w : World} (h : Keeps a w) (o : Obj) : Keeps a (w.alloc o) := Below.alloc h h.size o
theorem Keeps.drew {a w : World} (h : Keeps a w) : Keeps a w.drew := Below.drew h
theorem Keeps.drewN {a w : World} (h : Keeps a w) (n : Nat) : Keeps a (w.drewN n) := Below.trans h ⟨rfl, rfl, rfl, Nat.le_refl _, fun _ _ => rfl⟩
theorem Keeps.undrew {w w1 : World} (h : Keeps w.drew w1) : Keeps w w1 := Keeps.trans (Keeps.drew (Keeps.refl w)) h
theorem Keeps.undrewN {w w1 : World} {n : Nat} (h : Keeps (w.drewN n) w1) : Keeps w w1 := Keeps.trans (Keeps.drewN (Keeps.refl w) n) h
theorem Keeps.setCell {a w : World} (h : Keeps a w) {p : Addr} (hp : a.heap.size ≤ p.block) (u : Value) : Keeps a (w.setCell p u) := Below.setCell h hp u
theorem Keeps.trans' {a w w' : World} (h : Keeps a w) {B : Nat} (hb : Below B w w') (hB : a.heap.size ≤ B) : Keeps a w' := Below.trans h (Below.mono hb hB)
theorem lt_of_cell {w : World} {p : Addr} {v : Value} (h : w.cell? p = some v) : p.block < w.heap.size := by
  by_cases hb : p.block < w.heap.size
  · exact hb
  · simp [World.cell?, Array.getElem?_eq_none (Nat.le_of_not_lt hb)] at h
theorem Keeps.cell {w w' : World} (h : Keeps w w') {p : Addr} {v : Value} (hc : w.cell? p = some v) : w'.cell? p = some v :=
  (Below.cell h (lt_of_cell hc)).trans hc
theorem Keeps.frozen {w w' : World} (h : Keeps w w') {p : Addr} (hp : p.block < w.heap.size) : w'.frozen? p = w.frozen? p := Below.frozen h hp
/-- as two rules for the walk -/
theorem bcell {W w1 : World} (hb : Keeps W w1) : (∀ b o, b < W.heap.size → w1.cell? ⟨b, o, none⟩ = W.cell? ⟨b, o, none⟩) ∧ (∀ b o, b < W.heap.size → w1.frozen? ⟨b, o, none⟩ = W.frozen? ⟨b, o, none⟩) :=
  ⟨fun b o h => Below.cell hb (p := ⟨b, o, none⟩) h, fun b o h => Below.frozen hb (p := ⟨b, o, none⟩) h⟩
theorem lt_top {w w1 : World} {o : Obj} (h : Keeps (w.alloc o) w1) : w.heap.size < w1.heap.size := by have := Below.size h; rw [sz_alloc] at this; omega
/-- the block that was made just ahead of a call -/
theorem bcell_top {w w1 : World} {c : Array Value} {e : TypeId} (h : Keeps (w.alloc (.cells c e)) w1) : (∀ o, w1.cell? ⟨w.heap.size, o, none⟩ = (w.alloc (.cells c e)).cell? ⟨w.heap.size, o, none⟩) ∧ (∀ o, w1.frozen? ⟨w.heap.size, o, none⟩ = (w.alloc (.cells c e)).frozen? ⟨w.heap.size, o, none⟩) :=
  ⟨fun o => (bcell h).1 _ o (by rw [sz_alloc]; omega), fun o => (bcell h).2 _ o (by rw [sz_alloc]; omega)⟩
theorem Keeps.size {w w' : World} (h : Keeps w w') : w.heap.size ≤ w'.heap.size := Below.size h

/-- The call returns one value, of which P holds in the world that it leaves; all that was there is as it was. -/
def Gives (P : Value → World → Prop) (w : World) (e : Ending) (w' : World) : Prop := ∃ v, e = .returned v ∧ P v w' ∧ Keeps w w'

/-- v is a slice of n elements, each of k cells; cell j of element i holds 'c i j'. -/
def Arr (w : World) (v : Value) (n k : Nat) (c : Nat → Nat → Value) : Prop :=
  ∃ (ao : Option Addr) (cap : Nat), v = .slice ao n cap ∧ n ≤ cap ∧ cap ≤ maxLen ∧ (ao = none → cap = 0) ∧
    (0 < n → ∃ b off, ao = some ⟨b, off, none⟩ ∧ ∀ i j, i < n → j < k → w.cell? ⟨b, off + i * k + j, none⟩ = some (c i j))
theorem Arr.form {w : World} {v : Value} {n k : Nat} {c : Nat → Nat → Value} (h : Arr w v n k c) : ∃ ao cap, v = .slice ao n cap := by
  obtain ⟨ao, cap, hv, _⟩ := h
  exact ⟨ao, cap, hv⟩
theorem Arr.keep {w w' : World} {v : Value} {n k : Nat} {c : Nat → Nat → Value} (h : Arr w v n k c) (hk : Keeps w w') : Arr w' v n k c := by
  obtain ⟨ao, cap, hv, h1, h2, h4, h3⟩ := h
  refine ⟨ao, cap, hv, h1, h2, h4, fun hn => ?_⟩
  obtain ⟨b, off, ha, hc⟩ := h3 hn
  exact ⟨b, off, ha, fun i j hi hj => hk.cell (hc i j hi hj)⟩
theorem Arr.congr {w : World} {v : Value} {n k : Nat} {c d : Nat → Nat → Value} (h : Arr w v n k c) (hcd : ∀ i j, i < n → j < k → c i j = d i j) : Arr w v n k d := by
  obtain ⟨ao, cap, hv, h1, h2, h4, h3⟩ := h
  refine ⟨ao, cap, hv, h1, h2, h4, fun hn => ?_⟩
  obtain ⟨b, off, ha, hc⟩ := h3 hn
  exact ⟨b, off, ha, fun i j hi hj => by rw [hc i j hi hj, hcd i j hi hj]⟩

/-- a slice of ints -/
def Ints (w : World) (v : Value) (l : List Int) : Prop := Arr w v l.length 1 (fun i _ => .int .i64 (nth l i))
/-- a slice of bytes -/
def Bytes (w : World) (v : Value) (l : List UInt8) : Prop := Arr w v l.length 1 (fun i _ => .int .u8 ((nth l i).toNat : Int))

structure Ln where
  At : Int
  N : Int
  deriving Inhabited
structure Ed where
  From : Int
  To : Int
  Count : Int
  deriving Inhabited
structure Fu where
  Name : ByteArray
  Start : Int
  Size : Int
  deriving Inhabited
def Ln.c (x : Ln) : Nat → Value | 0 => .int .i64 x.At | _ => .int .i64 x.N
def Ed.c (x : Ed) : Nat → Value | 0 => .int .i64 x.From | 1 => .int .i64 x.To | _ => .int .i64 x.Count
def Fu.c (x : Fu) : Nat → Value | 0 => .string x.Name | 1 => .int .i64 x.Start | _ => .int .i64 x.Size
def Lines (w : World) (v : Value) (l : List Ln) : Prop := Arr w v l.length 2 (fun i j => (nth l i).c j)
def Edges (w : World) (v : Value) (l : List Ed) : Prop := Arr w v l.length 3 (fun i j => (nth l i).c j)
def Funs (w : World) (v : Value) (l : List Fu) : Prop := Arr w v l.length 3 (fun i j => (nth l i).c j)
def Tabs (w : World) (v : Value) (l : List (List Int)) : Prop :=
  ∃ tv : Nat → Value, Arr w v l.length 1 (fun i _ => tv i) ∧ ∀ i, i < l.length → Ints w (tv i) (nth l i)
theorem Tabs.keep {w w' : World} {v : Value} {l : List (List Int)} (h : Tabs w v l) (hk : Keeps w w') : Tabs w' v l := by
  obtain ⟨tv, h1, h2⟩ := h
  exact ⟨tv, h1.keep hk, fun i hi => (h2 i hi).keep hk⟩

structure Img where
  Text : List UInt8
  Funcs : List Fu
  Tables : List (List Int)
  Data : List Int
  Lines : List Ln
  Entry : Int
  deriving Inhabited
def ImgAt (w : World) (v : Value) (m : Img) : Prop :=
  ∃ v0 v1 v2 v3 v4, v = .agg #[v0, v1, v2, v3, v4, .int .i64 m.Entry] ∧ Bytes w v0 m.Text ∧ Funs w v1 m.Funcs ∧ Tabs w v2 m.Tables ∧ Ints w v3 m.Data ∧ Lines w v4 m.Lines
theorem ImgAt.keep {w w' : World} {v : Value} {m : Img} (h : ImgAt w v m) (hk : Keeps w w') : ImgAt w' v m := by
  obtain ⟨v0, v1, v2, v3, v4, hv, h0, h1, h2, h3, h4⟩ := h
  exact ⟨v0, v1, v2, v3, v4, hv, Arr.keep h0 hk, Arr.keep h1 hk, h2.keep hk, Arr.keep h3 hk, Arr.keep h4 hk⟩

end Go.Proofs.YtjnhiiidcjajbaaGreatDoor.BH
