/-
What a slice, a string and a struct of plain data look like 
-/
import Derived.WalkSpells
import Derived.WalkLawsBesides
import Derived.Deep.Strs
import Derived.ProofKit
import Derived.OpenShut
import Derived.Deep.CondSized
set_option linter.all false
section
namespace Go.Proofs.YtgdamggkaklhjaaDoor.BH
open Go.RowKit

def nth {α : Type} [Inhabited α] (l : List α) (i : Nat) : α := l.getD i default

theorem nth_eq {α : Type} [Inhabited α] (l : List α) (i : Nat) (h : i < l.length) : nth l i = l[i] := by
 simp [nth, h]
theorem take_succ_nth {α : Type} [Inhabited α] (l : List α) (i : Nat) (h : i < l.length) : l.take (i + 1) = l.take i ++ [nth l i] := by
 rw [nth_eq l i h, List.take_succ_eq_append_getElem h]
theorem drop_nth {α : Type} [Inhabited α] (l : List α) (i : Nat) (h : i < l.length) : l.drop i = nth l i :: l.drop (i + 1) := by
 rw [nth_eq l i h, List.drop_eq_getElem_cons h]

def Keeps (w w' : World) : Prop := Below w.heap.size w w'
theorem sz_alloc (w : World) (o : Obj) : (w.alloc o).heap.size = w.heap.size + 1 := Array.size_push _
theorem sz_drew (w : World) : w.drew.heap.size = w.heap.size := rfl
theorem sz_drewN (w : World) (n : Nat) : (w.drewN n).heap.size = w.heap.size := rfl
theorem sz_setCell (w : World) (p : Addr) (u : Value) : (w.setCell p u).heap.size = w.heap.size := by simp
theorem Keeps.refl (w : World) : Keeps w w := Below.refl _ _
theorem Keeps.trans {a b c : World} (h : Keeps a b) (k : Keeps b c) : Keeps a c := Below.trans h (Below.mono k h.size)
theorem Keeps.alloc {a w : World} (h : Keeps a w) (o : Obj) : Keeps a (w.alloc o) := Below.alloc h h.size o
theorem Keeps.drew {a w : World} (h : Keeps a w) : Keeps a w.drew := Below.drew h
theorem Keeps.drewN {a w : World} (h : Keeps a w) (n : Nat) : Keeps a (w.drewN n) := Below.trans h ⟨rfl, rfl, rfl, Nat.le_refl _, fun _ _ => rfl⟩
theorem Keeps.undrew {w w1 : World} (h : Keeps w.drew w1) : Keeps w w1 := Keeps.trans (Keeps.drew (Keeps.refl w)) h
theorem Keeps.undrewN {w w1 : World} {n : Nat} (h : Keeps (w.drewN n) w1) : Keeps w w1 := Keeps.trans (Keeps.drewN (Keeps.refl w) n) h
theorem Keeps.setCell {a w : World} (h : Keeps a w) {p : Addr} (hp : a.heap.size ≤ p.block) (u : Value) : Keeps a (w.setCell p u) := Below.setCell h hp u
theorem Keeps.trans' {a w w' : World} (h : Keeps a w) {B : Nat} (hb : Below B w w') (hB : a.heap.size ≤ B) : Keeps a w' := Below.trans h (Below.mono hb hB)
theorem lt_of_cell {w : World} {p : Addr} {v : Value} (h : w.cell? p = some v) : p.block < w.heap.size := by
 by_cases hb : p.block < w.heap.size
 ·exact hb
 simp [World.cell?, Array.getElem?_eq_none (Nat.le_of_not_lt hb)] at h
theorem Keeps.cell {w w' : World} (h : Keeps w w') {p : Addr} {v : Value} (hc : w.cell? p = some v) : w'.cell? p = some v :=
 (Below.cell h (lt_of_cell hc)).trans hc
theorem Keeps.frozen {w w' : World} (h : Keeps w w') {p : Addr} (hp : p.block < w.heap.size) : w'.frozen? p = w.frozen? p := Below.frozen h hp
theorem bcell {W w1 : World} (hb : Keeps W w1) : (∀ b o, b < W.heap.size → w1.cell? ⟨b, o, none⟩ = W.cell? ⟨b, o, none⟩) ∧ (∀ b o, b < W.heap.size → w1.frozen? ⟨b, o, none⟩ = W.frozen? ⟨b, o, none⟩) :=
 ⟨fun b o h => Below.cell hb (p := ⟨b, o, none⟩) h, fun b o h => Below.frozen hb (p := ⟨b, o, none⟩) h⟩
theorem lt_top {w w1 : World} {o : Obj} (h : Keeps (w.alloc o) w1) : w.heap.size < w1.heap.size := by have := Below.size h; rw [sz_alloc] at this; omega
theorem bcell_top {w w1 : World} {c : Array Value} {e : TypeId} (h : Keeps (w.alloc (.cells c e)) w1) : (∀ o, w1.cell? ⟨w.heap.size, o, none⟩ = (w.alloc (.cells c e)).cell? ⟨w.heap.size, o, none⟩) ∧ (∀ o, w1.frozen? ⟨w.heap.size, o, none⟩ = (w.alloc (.cells c e)).frozen? ⟨w.heap.size, o, none⟩) :=
 ⟨fun o => (bcell h).1 _ o (by rw [sz_alloc]; omega), fun o => (bcell h).2 _ o (by rw [sz_alloc]; omega)⟩
theorem Keeps.size {w w' : World} (h : Keeps w w') : w.heap.size ≤ w'.heap.size := Below.size h

def Gives (P : Value → World → Prop) (w : World) (e : Ending) (w' : World) : Prop := ∃ v, e = .returned v ∧ P v w' ∧ Keeps w w'

def Arr (w : World) (v : Value) (n k : Nat) (c : Nat → Nat → Value) : Prop :=
 ∃ (ao : Option Addr) (cap : Nat), v = .slice ao n cap ∧ n ≤ cap ∧ cap ≤ maxLen ∧ (ao = none → cap = 0) ∧
  (0 < n → ∃ b off, ao = some ⟨b, off, none⟩ ∧ ∀ i j, i < n → j < k → w.cell? ⟨b, off + i * k + j, none⟩ = some (c i j))
theorem Arr.form {w : World} {v : Value} {n k : Nat} {c : Nat → Nat → Value} (h : Arr w v n k c) : ∃ ao cap, v = .slice ao n cap := by
 obtain ⟨ao, cap, hv, _⟩ := h
 exact ⟨ao, cap, hv⟩
theorem Arr.keep {w w' : World} {v : Value} {n k : Nat} {c : Nat → Nat → Value} (h : Arr w v n k c) (hk : Keeps w w') : Arr w' v n k c := by
 obtain ⟨ao, H0, hv, h1, h2, h4, h3⟩ := h
 refine ⟨ao, H0, hv, h1, h2, h4, fun hn => ?_⟩
 obtain ⟨b, H1, ha, hc⟩ := h3 hn
 exact ⟨b, H1, ha, fun i j hi hj => hk.cell (hc i j hi hj)⟩
theorem Arr.congr {w : World} {v : Value} {n k : Nat} {c d : Nat → Nat → Value} (h : Arr w v n k c) (hcd : ∀ i j, i < n → j < k → c i j = d i j) : Arr w v n k d := by
 obtain ⟨ao, H0, hv, h1, h2, h4, h3⟩ := h
 refine ⟨ao, H0, hv, h1, h2, h4, fun hn => ?_⟩
 obtain ⟨b, H1, ha, hc⟩ := h3 hn
 exact ⟨b, H1, ha, fun i j hi hj => by rw [hc i j hi hj, hcd i j hi hj]⟩

def Ints (w : World) (v : Value) (l : List Int) : Prop := Arr w v l.length 1 (fun i _ => .int .i64 (nth l i))
def Bytes (w : World) (v : Value) (l : List UInt8) : Prop := Arr w v l.length 1 (fun i _ => .int .u8 ((nth l i).toNat : Int))

structure Ln where
 At : Int
 N : Int
 deriving Inhabited
structure Ed where
 From : Int
 To : Int
 Count : Int
 deriving Inhabited
structure Fu where
 Name : ByteArray
 Start : Int
 Size : Int
 deriving Inhabited
def Ln.c (x : Ln) : Nat → Value | 0 => .int .i64 x.At | _ => .int .i64 x.N
def Ed.c (x : Ed) : Nat → Value | 0 => .int .i64 x.From | 1 => .int .i64 x.To | _ => .int .i64 x.Count
def Fu.c (x : Fu) : Nat → Value | 0 => .string x.Name | 1 => .int .i64 x.Start | _ => .int .i64 x.Size
def Lines (w : World) (v : Value) (l : List Ln) : Prop := Arr w v l.length 2 (fun i j => (nth l i).c j)
def Funs (w : World) (v : Value) (l : List Fu) : Prop := Arr w v l.length 3 (fun i j => (nth l i).c j)
def Tabs (w : World) (v : Value) (l : List (List Int)) : Prop :=
 ∃ tv : Nat → Value, Arr w v l.length 1 (fun i _ => tv i) ∧ ∀ i, i < l.length → Ints w (tv i) (nth l i)
theorem Tabs.keep {w w' : World} {v : Value} {l : List (List Int)} (h : Tabs w v l) (hk : Keeps w w') : Tabs w' v l := by
 obtain ⟨tv, h1, h2⟩ := h
 exact ⟨tv, h1.keep hk, fun i hi => (h2 i hi).keep hk⟩

structure Img where
 Text : List UInt8
 Funcs : List Fu
 Tables : List (List Int)
 Data : List Int
 Lines : List Ln
 Entry : Int
 deriving Inhabited
def ImgAt (w : World) (v : Value) (m : Img) : Prop :=
 ∃ v0 v1 v2 v3 v4, v = .agg #[v0, v1, v2, v3, v4, .int .i64 m.Entry] ∧ Bytes w v0 m.Text ∧ Funs w v1 m.Funcs ∧ Tabs w v2 m.Tables ∧ Ints w v3 m.Data ∧ Lines w v4 m.Lines
theorem ImgAt.keep {w w' : World} {v : Value} {m : Img} (h : ImgAt w v m) (hk : Keeps w w') : ImgAt w' v m := by
 obtain ⟨v0, v1, v2, v3, v4, hv, h0, h1, h2, h3, h4⟩ := h
 exact ⟨v0, v1, v2, v3, v4, hv, Arr.keep h0 hk, Arr.keep h1 hk, h2.keep hk, Arr.keep h3 hk, Arr.keep h4 hk⟩

theorem jE {α : Sort _} (a : α) : ∃ z, z = a := ⟨a, rfl⟩
theorem jH {p : Prop} (h : p) : Hid p := h
theorem jo {p : Prop} (h : p := by omega) : p := h
theorem jr {p : Prop} (h : p := by rfl) : p := h
theorem jx {p : Prop} (h : p := by kernel_rfl) : p := h
theorem jd {p : Prop} (h : p := by decide) : p := h
theorem jm {p : Prop} (h : p := by simp [intOf]; omega) : p := h
theorem jc (w : World) (g k : Nat) (x : Int) (h : w.cell? ⟨g, k, none⟩ = some (.int .i64 x)) : w.cell? ⟨g, k, none⟩ = some (.int .i64 x) := h
theorem jv (w : World) (g k : Nat) (x : Value) (h : w.cell? ⟨g, k, none⟩ = some x) : w.cell? ⟨g, k, none⟩ = some x := h
theorem jS : (∀ (α : Type) (l : List α) i (x : α), l.toArray.setIfInBounds i x = (l.set i x).toArray) ∧ (∀ (α : Type) (x a : α) l, (x :: l).set 0 a = a :: l) ∧ ∀ (α : Type) (x a : α) l n, (x :: l).set (n + 1) a = x :: l.set n a := ⟨fun _ _ _ _ => List.setIfInBounds_toArray .., fun _ _ _ _ => rfl, fun _ _ _ _ _ => rfl⟩
theorem jT : (∀ (α : Type) (l : List α) (i : Nat), l.toArray[i]? = l[i]?) ∧ (∀ (α : Type) (a : α) l, (a :: l)[0]? = some a) ∧ ∀ (α : Type) (a : α) l (i : Nat), (a :: l)[i + 1]? = l[i]? := ⟨fun _ _ _ => List.getElem?_toArray .., fun _ _ _ => rfl, fun _ _ _ _ => rfl⟩
theorem jU : (∀ (α : Type) (a : α) l i, (a :: l).take (i + 1) = a :: l.take i) ∧ (∀ (α : Type) (l : List α), l.take 0 = []) ∧ (∀ (α : Type) (a : α) l i, (a :: l).drop (i + 1) = l.drop i) ∧ ∀ (α : Type) (l : List α), l.drop 0 = l := ⟨fun _ _ _ _ => rfl, fun _ _ => rfl, fun _ _ _ _ => rfl, fun _ _ => rfl⟩
theorem jL : (∀ (α : Type) (a : α) l, (a :: l).length = l.length + 1) ∧ ∀ (α : Type), ([] : List α).length = 0 := ⟨fun _ _ _ => rfl, fun _ => rfl⟩
theorem jG : (∀ (α : Type) (l : List α) (i : Nat) (h : i < l.toArray.size), l.toArray[i] = l[i]'h) ∧ ∀ (α : Type) (a : α) l (h : 0 < (a :: l).length), (a :: l)[0]'h = a := ⟨fun _ _ _ _ => rfl, fun _ _ _ _ => rfl⟩
theorem jw {p : Prop} (h : p := by rw [IntKind.wrap_i64]; omega) : p := h
theorem jk {w w' : World} (h : Keeps w w' := by repeat (with_reducible (first | assumption | exact Keeps.refl _ | refine Keeps.alloc ?_ _ | refine Keeps.drew ?_ | refine Keeps.drewN ?_ _ | refine Keeps.trans' ?_ (by assumption) (by assumption)))) : Keeps w w' := h
theorem jz {p : Prop} (h : p := by first | omega | (simp only [sz_alloc]; omega) | (simp only [sz_drew]; omega) | (simp only [sz_alloc, sz_drew]; omega) | (simp only [sz_alloc, sz_drewN]; omega)) : p := h
theorem ex {α : Sort _} (a : α) : ∃ z, z = a := ⟨a, rfl⟩
theorem ku5 {w w' : World} (h : Keeps w w' := by repeat (with_reducible (first | assumption | exact Keeps.refl _ | refine Keeps.alloc ?_ _ | refine Keeps.drew ?_ | refine Keeps.drewN ?_ _))) : Keeps w w' := h
theorem ku7 {w w' : World} (h : Keeps w w' := by repeat (with_reducible (first | assumption | exact Keeps.refl _ | refine Keeps.alloc ?_ _ | refine Keeps.drew ?_ | refine Keeps.drewN ?_ _ | refine Keeps.setCell ?_ (by assumption) _))) : Keeps w w' := h
theorem hid2 {a b : Prop} (x : a) (y : b) : Hid a ∧ Hid b := ⟨x, y⟩
theorem hid3 {a b c : Prop} (x : a) (y : b) (z : c) : Hid a ∧ Hid b ∧ Hid c := ⟨x, y, z⟩
theorem hid4 {a b c d : Prop} (x : a) (y : b) (z : c) (u : d) : Hid a ∧ Hid b ∧ Hid c ∧ Hid d := ⟨x, y, z, u⟩
theorem om {p : Prop} (h : p := by omega) : p := h
end Go.Proofs.YtgdamggkaklhjaaDoor.BH
end
section
namespace Go.Proofs.YtgdamggkaklhjaaDoor.BH
open Go.RowKit Go.ChangeShapes Go.WideShapes Go.Deep

def Fits {H : Type} (P : Program) (t : TypeId) (d : DataW H) : Prop := ∀ n ∈ d.weights P t, n ≤ reachBytes

section
variable {H : Type} {enc : TypeId × Value → H} {P : Program} {w : World}

theorem fits_each {ts : List TypeId} {ds : List (DataW H)} (h : (DataW.weightsEach P ts ds).all (· ≤ reachBytes) = true) {j : Nat} {t : TypeId} {d : DataW H} (ht : ts[j]? = some t) (hd : ds[j]? = some d) : Fits P t d := fun n hn => by
 simpa using List.all_eq_true.1 h n (DataW.weights_mem_each ht hd n hn)

theorem mem_weightsAll {e : TypeId} {l : List (DataW H)} {d : DataW H} (h : d ∈ l) {n : Nat} (hn : n ∈ d.weights P e) : n ∈ DataW.weightsAll P e l := by
 induction l with
 | nil => cases h
 | cons x r ih =>
  simp only [DataW.weightsAll, List.mem_append]
  cases List.mem_cons.1 h with
  | inl e => subst e; exact Or.inl hn
  | inr e => exact Or.inr (ih e)

theorem arr_open {t e : TypeId} {fuel k : Nat} {c : Value} {x : DataW H × List MemPlace} (ht : P.underlying t = some (.slice e)) (hk : P.cellsOf e = k) (hk0 : 0 < k)
  (h : DataW.trod enc P w 0 (fun _ => true) true fuel t [c] = some x) (hf : Fits P t x.1) :
  ∃ (n m : Nat) (cs : Nat → Nat → Value), Arr w c n k cs ∧ n * P.bytesOf e ≤ reachBytes ∧ ∀ i, i < n → ∃ y, DataW.trod enc P w 0 (fun _ => true) true m e ((List.range k).map (cs i)) = some y ∧ Fits P e y.1 := by
 rcases open_slice ht h with ⟨hc, _⟩ | ⟨a, len, cap, m, fu, D, Pl, hc, _, hl, hm, H3, rfl, hx⟩
 ·simp only [List.cons.injEq, and_true] at hc
  subst hc
  exact ⟨0, 0, fun _ _ => undef, ⟨none, 0, rfl, Nat.le_refl _, by unfold maxLen; omega, fun _ => rfl, fun h => absurd h (Nat.lt_irrefl _)⟩, by simp, fun i hi => absurd hi (Nat.not_lt_zero _)⟩
 simp only [List.cons.injEq, and_true] at hc
 subst hc
 have H4 : m = cap := by simpa using H3
 subst H4
 rw [hk] at hx
 obtain ⟨C, hC⟩ := choose_lt (α := List Value) (p := fun i cs' => w.cells? 0 (a.add (i * k)) k = some cs' ∧ DataW.trod enc P w 0 (fun _ => true) true fu e cs' = some (D i, Pl i)) hx
 have H0 : ∀ i j, i < m → j < k → w.cell? ((a.add (i * k)).add j) = some ((C i).getD j undef) ∧ (C i).length = k := by intro i j hi hj; obtain ⟨_, H1, H5⟩ := World.cells?_some (hC i hi).1; refine ⟨?_, H1⟩; rw [H5 j hj]; simp [List.getElem?_eq_getElem (show j < (C i).length by omega)]
 refine ⟨len, fu, fun i j => (C i).getD j undef, ⟨some a, m, rfl, hl, hm, (fun h => by cases h), fun hn => ?_⟩, ?_, fun i hi => ⟨(D i, Pl i), ?_, ?_⟩⟩
 ·have h0 := (H0 0 0 jo hk0).1
  have H2 : a.spot = none := by
   rw [Nat.zero_mul] at h0
   simp only [Addr.add, ↓reduceIte] at h0
   unfold World.cell? at h0
   cases hs : a.spot with
   | none => rfl
   | some _ =>
    simp only [hs, Option.isSome_some, ↓reduceIte] at h0
    split at h0 <;> cases h0
  obtain ⟨ab, ao, H6⟩ := a
  obtain rfl : H6 = none := H2
  refine ⟨ab, ao, rfl, fun i j hi hj => ?_⟩
  rw [← (H0 i j jo hj).1, add_add]
  unfold Addr.add
  split
  ·rename_i h00
   rw [show ao + i * k + j = ao by omega]
  rw [Nat.add_assoc]
 ·have := hf ((((List.range len).map D).length + ((List.range (m - len)).map fun j => D (len + j)).length) * P.bytesOf e) (by simp [DataW.weights, ht])
  simp only [List.length_map, List.length_range] at this
  exact Nat.le_trans (Nat.mul_le_mul_right _ jo) this
 ·rw [← (hC i jo).2]
  refine congrArg _ ?_
  obtain ⟨_, H1⟩ := H0 i 0 jo hk0
  apply List.ext_getElem?
  intro j
  by_cases hj : j < k
  ·simp [hj, List.getElem?_eq_getElem (show j < (C i).length by omega)]
  simp [Nat.le_of_not_lt hj, H1]
 intro n hn
 refine hf n ?_
 simp only [DataW.weights, ht, List.mem_cons, List.mem_append]
 exact Or.inr (Or.inl (mem_weightsAll (List.mem_map.2 ⟨i, List.mem_range.2 hi, rfl⟩) hn))

def I64 (x : Int) : Prop := -9223372036854775808 ≤ x ∧ x ≤ 9223372036854775807
theorem int_open {t : TypeId} {fuel : Nat} {c : Value} {x : DataW H × List MemPlace} {base : Nat} {sp : Nat → Bool} {hd : Bool} (ht : P.underlying t = some (.int .i64)) (h : DataW.trod enc P w base sp hd fuel t [c] = some x) : ∃ z : Int, c = .int .i64 z ∧ I64 z := by
 obtain ⟨z, hc, _, hw⟩ := DataW.trod_int ht h
 simp only [List.cons.injEq, and_true] at hc
 exact ⟨z, hc, by simpa [Lit.wf, IntKind.min, IntKind.max, IntKind.signed, IntKind.bits, I64] using hw⟩
theorem byte_open {t : TypeId} {fuel : Nat} {c : Value} {x : DataW H × List MemPlace} {base : Nat} {sp : Nat → Bool} {hd : Bool} (ht : P.underlying t = some (.int .u8)) (h : DataW.trod enc P w base sp hd fuel t [c] = some x) : ∃ z : UInt8, c = .int .u8 (z.toNat : Int) := by
 obtain ⟨z, hc, _, hw⟩ := DataW.trod_int ht h
 simp only [List.cons.injEq, and_true] at hc
 have hb : 0 ≤ z ∧ z ≤ 255 := by simpa [Lit.wf, IntKind.min, IntKind.max, IntKind.signed, IntKind.bits] using hw
 refine ⟨UInt8.ofNat z.toNat, ?_⟩
 rw [hc]
 congr 1
 simp only [UInt8.toNat_ofNat']
 omega
theorem nth_map_range {α : Type} [Inhabited α] (f : Nat → α) {n i : Nat} (h : i < n) : nth ((List.range n).map f) i = f i := by
 rw [nth_eq _ _ (by simpa using h)]; simp

theorem ints_open {t e : TypeId} {fuel : Nat} {c : Value} {x : DataW H × List MemPlace} (ht : P.underlying t = some (.slice e)) (hk : P.cellsOf e = 1) (he : P.underlying e = some (.int .i64)) (hby : P.bytesOf e = 8)
  (h : DataW.trod enc P w 0 (fun _ => true) true fuel t [c] = some x) (hf : Fits P t x.1) : ∃ l : List Int, Ints w c l ∧ (∀ i, i < l.length → I64 (nth l i)) ∧ l.length * 8 ≤ reachBytes := by
 obtain ⟨n, m, cs, ha, hb, hx⟩ := arr_open ht hk jo h hf
 obtain ⟨f, H0⟩ := choose_lt (α := Int) (p := fun i z => cs i 0 = .int .i64 z ∧ I64 z) (fun i hi => by obtain ⟨y, hy, _⟩ := hx i hi; exact int_open he hy)
 refine ⟨(List.range n).map f, ?_, fun i hi => ?_, by simpa [hby] using hb⟩
 ·unfold Ints
  simp only [List.length_map, List.length_range]
  exact ha.congr fun i j hi hj => by rw [nth_map_range f hi, show j = 0 by omega]; exact (H0 i hi).1
 simp only [List.length_map, List.length_range] at hi
 rw [nth_map_range f hi]; exact (H0 i hi).2
theorem bytes_open {t e : TypeId} {fuel : Nat} {c : Value} {x : DataW H × List MemPlace} (ht : P.underlying t = some (.slice e)) (hk : P.cellsOf e = 1) (he : P.underlying e = some (.int .u8)) (hby : P.bytesOf e = 1)
  (h : DataW.trod enc P w 0 (fun _ => true) true fuel t [c] = some x) (hf : Fits P t x.1) : ∃ l : List UInt8, Bytes w c l ∧ l.length ≤ reachBytes := by
 obtain ⟨n, m, cs, ha, hb, hx⟩ := arr_open ht hk jo h hf
 obtain ⟨f, H0⟩ := choose_lt (α := UInt8) (p := fun i z => cs i 0 = .int .u8 (z.toNat : Int)) (fun i hi => by obtain ⟨y, hy, _⟩ := hx i hi; exact byte_open he hy)
 refine ⟨(List.range n).map f, ?_, by simpa [hby] using hb⟩
 unfold Bytes
 simp only [List.length_map, List.length_range]
 exact ha.congr fun i j hi hj => by rw [nth_map_range f hi, show j = 0 by omega]; exact H0 i hi

theorem args_keep {W W' : World} (hl : laidOutB P = true) : ∀ {ts : List TypeId} {vs : List Value} {ds : List (DataW H)} {ps : List MemPlace},
  (∀ t ∈ ts, P.readableRec t = true ∧ t < P.types.size) → Below W.heap.size W W' → (∀ x ∈ ps, x.block < W.heap.size) →
  DataW.TrodAll enc P W 0 (fun _ => true) true ts vs ds ps → DataW.TrodAll enc P W' 0 (fun b => decide (b < W.heap.size)) true ts vs ds ps
 | [], vs, ds, ps, _, _, _, h => by obtain ⟨rfl, rfl, rfl⟩ := trodAll_nil h; exact rfl
 | t :: ts, vs, ds, ps, hr, hb, hlt, h => by
  obtain ⟨v, vs', d, ds', p, q, rfl, rfl, rfl, h0, h1⟩ := trodAll_cons h
  exact ⟨p, q, Below.trod hl (hr t (by simp)).1 (hr t (by simp)).2 h0 hb (fun x hx => hlt x (by simp [hx])),
   args_keep hl (fun u hu => hr u (by simp [hu])) hb (fun x hx => hlt x (by simp [hx])) h1, rfl⟩

theorem law_post {fn : Func} {s : ChangeSpec} {W W' : World} {args : Array Value} {ds gs : List (DataW H)} {before : List MemPlace} {tb : TypeId}
  (hl : laidOutB P = true) (hr : ∀ t ∈ fn.params.toList, P.readableRec t = true ∧ t < P.types.size) (hres : fn.resultTypes = #[tb]) (htb : P.underlying tb = some .bool)
  (hs : (s.fn H (ds ++ gs)).results = [.lit (.bool true)]) (hsa : (s.fn H (ds ++ gs)).args = ds) (hsv : (s.fn H (ds ++ gs)).vars = []) (hv : s.vars = [])
  (hW : DataW.Whole enc P fn.params.toList s.vars false W args.toList ds gs before) (hb : Keeps W W') :
  s.post enc P fn false true false false W args (.bool true) W' := by
 have H0 := hW
 obtain ⟨p, q, hA, hV, rfl, hfz, hnd⟩ := hW
 refine ⟨ds, gs, p ++ q, [], p, [], H0, ?_, ?_, ?_, Below.frame hb _, fun h => by cases h⟩
 ·rw [hres, hs]
  exact trodAll_cons_mk (shut_bool htb true) trodAll_mk0
 ·rw [hsa]
  exact args_keep hl hr hb (fun x hx => H0.lt x (by simp [hx])) hA
 rw [hsv, hv]; exact rfl
end
end Go.Proofs.YtgdamggkaklhjaaDoor.BH
end
