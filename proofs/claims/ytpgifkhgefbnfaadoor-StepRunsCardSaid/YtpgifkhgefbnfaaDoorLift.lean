/-
  Closed facts on the types of the translation: how many cells and bytes an element has, and its zero.
  What a slice, a string and a struct of plain data look like in memory, said of cells; and that it stays so while only new memory is made. No program is named here.
  The document's In: is a number from low to high?
  What a flow (blocks, tables, firsts) looks like in memory. No program is named here.
  From the reading of an argument as data to what lies in memory, and from a law's contract to the row's words. No program is named here.
-/
import Derived.Test.YtpgifkhgefbnfaaDoorProg
import Derived.KernelRfl
import Derived.WalkKit
import Derived.WalkSpells
import Derived.WalkLawsBesides
import Derived.Deep.Slices
import Derived.Deep.Strs
import Derived.Lib.Hide
import Derived.ProofKit
import Derived.OpenShut
import Derived.SizedLaws
import Derived.Carry
import Derived.Deep.CondSized
section
namespace Go.Proofs.YtpgifkhgefbnfaaDoor
theorem info_int : (Tryd.prog.info? 3).map (fun i => (i.zero, i.size, i.bytes)) = some (some (.int .i64 0), 1, 8) := by kernel_rfl
theorem info_u8 : (Tryd.prog.info? 5).map (fun i => (i.zero, i.size, i.bytes)) = some (some (.int .u8 0), 1, 1) := by kernel_rfl
theorem info_ints : (Tryd.prog.info? 32).map (fun i => (i.zero, i.size, i.bytes)) = some (some (.slice none 0 0), 1, 24) := by kernel_rfl
theorem info_line : (Tryd.prog.info? 72).map (fun i => (i.zero, i.size, i.bytes)) = some (some (.agg #[.int .i64 0, .int .i64 0]), 2, 16) := by kernel_rfl
theorem info_fun : (Tryd.prog.info? 70).map (fun i => (i.zero, i.size, i.bytes)) = some (some (.agg #[.string ByteArray.empty, .int .i64 0, .int .i64 0]), 3, 32) := by kernel_rfl
end Go.Proofs.YtpgifkhgefbnfaaDoor
end
section
namespace Go.Proofs.YtpgifkhgefbnfaaDoor.BH
open Go.RowKit

/-- The element of a list at a place; simp does not look into it. -/
def nth {α : Type} [Inhabited α] (l : List α) (i : Nat) : α := l.getD i default

theorem nth_eq {α : Type} [Inhabited α] (l : List α) (i : Nat) (h : i < l.length) : nth l i = l[i] := by
  simp [nth, h]
theorem take_succ_nth {α : Type} [Inhabited α] (l : List α) (i : Nat) (h : i < l.length) : l.take (i + 1) = l.take i ++ [nth l i] := by
  rw [nth_eq l i h, List.take_succ_eq_append_getElem h]
theorem drop_nth {α : Type} [Inhabited α] (l : List α) (i : Nat) (h : i < l.length) : l.drop i = nth l i :: l.drop (i + 1) := by
  rw [nth_eq l i h, List.drop_eq_getElem_cons h]

/-- The world w' is w with more: all that was there is as it was. -/
def Keeps (w w' : World) : Prop := Below w.heap.size w w'
theorem sz_alloc (w : World) (o : Obj) : (w.alloc o).heap.size = w.heap.size + 1 := Array.size_push _
theorem sz_drew (w : World) : w.drew.heap.size = w.heap.size := rfl
theorem sz_drewN (w : World) (n : Nat) : (w.drewN n).heap.size = w.heap.size := rfl
theorem sz_setCell (w : World) (p : Addr) (u : Value) : (w.setCell p u).heap.size = w.heap.size := by simp
theorem Keeps.refl (w : World) : Keeps w w := Below.refl _ _
theorem Keeps.trans {a b c : World} (h : Keeps a b) (k : Keeps b c) : Keeps a c := Below.trans h (Below.mono k h.size)
theorem Keeps.alloc {a w : World} (h : Keeps a w) (o : Obj) : Keeps a (w.alloc o) := Below.alloc h h.size o
theorem Keeps.drew {a w : World} (h : Keeps a w) : Keeps a w.drew := Below.drew h
theorem Keeps.drewN {a w : World} (h : Keeps a w) (n : Nat) : Keeps a (w.drewN n) := Below.trans h ⟨rfl, rfl, rfl, Nat.le_refl _, fun _ _ => rfl⟩
theorem Keeps.undrew {w w1 : World} (h : Keeps w.drew w1) : Keeps w w1 := Keeps.trans (Keeps.drew (Keeps.refl w)) h
theorem Keeps.undrewN {w w1 : World} {n : Nat} (h : Keeps (w.drewN n) w1) : Keeps w w1 := Keeps.trans (Keeps.drewN (Keeps.refl w) n) h
theorem Keeps.setCell {a w : World} (h : Keeps a w) {p : Addr} (hp : a.heap.size ≤ p.block) (u : Value) : Keeps a (w.setCell p u) := Below.setCell h hp u
theorem Keeps.trans' {a w w' : World} (h : Keeps a w) {B : Nat} (hb : Below B w w') (hB : a.heap.size ≤ B) : Keeps a w' := Below.trans h (Below.mono hb hB)
theorem lt_of_cell {w : World} {p : Addr} {v : Value} (h : w.cell? p = some v) : p.block < w.heap.size := by
  by_cases hb : p.block < w.heap.size
  · exact hb
  · simp [World.cell?, Array.getElem?_eq_none (Nat.le_of_not_lt hb)] at h
theorem Keeps.cell {w w' : World} (h : Keeps w w') {p : Addr} {v : Value} (hc : w.cell? p = some v) : w'.cell? p = some v :=
  (Below.cell h (lt_of_cell hc)).trans hc
theorem Keeps.frozen {w w' : World} (h : Keeps w w') {p : Addr} (hp : p.block < w.heap.size) : w'.frozen? p = w.frozen? p := Below.frozen h hp
/-- as two rules for the walk -/
theorem bcell {W w1 : World} (hb : Keeps W w1) : (∀ b o, b < W.heap.size → w1.cell? ⟨b, o, none⟩ = W.cell? ⟨b, o, none⟩) ∧ (∀ b o, b < W.heap.size → w1.frozen? ⟨b, o, none⟩ = W.frozen? ⟨b, o, none⟩) :=
  ⟨fun b o h => Below.cell hb (p := ⟨b, o, none⟩) h, fun b o h => Below.frozen hb (p := ⟨b, o, none⟩) h⟩
theorem lt_top {w w1 : World} {o : Obj} (h : Keeps (w.alloc o) w1) : w.heap.size < w1.heap.size := by have := Below.size h; rw [sz_alloc] at this; omega
/-- the block that was made just ahead of a call -/
theorem bcell_top {w w1 : World} {c : Array Value} {e : TypeId} (h : Keeps (w.alloc (.cells c e)) w1) : (∀ o, w1.cell? ⟨w.heap.size, o, none⟩ = (w.alloc (.cells c e)).cell? ⟨w.heap.size, o, none⟩) ∧ (∀ o, w1.frozen? ⟨w.heap.size, o, none⟩ = (w.alloc (.cells c e)).frozen? ⟨w.heap.size, o, none⟩) :=
  ⟨fun o => (bcell h).1 _ o (by rw [sz_alloc]; omega), fun o => (bcell h).2 _ o (by rw [sz_alloc]; omega)⟩
theorem Keeps.size {w w' : World} (h : Keeps w w') : w.heap.size ≤ w'.heap.size := Below.size h

/-- The call returns one value, of which P holds in the world that it leaves; all that was there is as it was. -/
def Gives (P : Value → World → Prop) (w : World) (e : Ending) (w' : World) : Prop := ∃ v, e = .returned v ∧ P v w' ∧ Keeps w w'

/-- v is a slice of n elements, each of k cells; cell j of element i holds 'c i j'. -/
def Arr (w : World) (v : Value) (n k : Nat) (c : Nat → Nat → Value) : Prop :=
  ∃ (ao : Option Addr) (cap : Nat), v = .slice ao n cap ∧ n ≤ cap ∧ cap ≤ maxLen ∧ (ao = none → cap = 0) ∧
    (0 < n → ∃ b off, ao = some ⟨b, off, none⟩ ∧ ∀ i j, i < n → j < k → w.cell? ⟨b, off + i * k + j, none⟩ = some (c i j))
theorem Arr.form {w : World} {v : Value} {n k : Nat} {c : Nat → Nat → Value} (h : Arr w v n k c) : ∃ ao cap, v = .slice ao n cap := by
  obtain ⟨ao, cap, hv, _⟩ := h
  exact ⟨ao, cap, hv⟩
theorem Arr.keep {w w' : World} {v : Value} {n k : Nat} {c : Nat → Nat → Value} (h : Arr w v n k c) (hk : Keeps w w') : Arr w' v n k c := by
  obtain ⟨ao, cap, hv, h1, h2, h4, h3⟩ := h
  refine ⟨ao, cap, hv, h1, h2, h4, fun hn => ?_⟩
  obtain ⟨b, off, ha, hc⟩ := h3 hn
  exact ⟨b, off, ha, fun i j hi hj => hk.cell (hc i j hi hj)⟩
theorem Arr.congr {w : World} {v : Value} {n k : Nat} {c d : Nat → Nat → Value} (h : Arr w v n k c) (hcd : ∀ i j, i < n → j < k → c i j = d i j) : Arr w v n k d := by
  obtain ⟨ao, cap, hv, h1, h2, h4, h3⟩ := h
  refine ⟨ao, cap, hv, h1, h2, h4, fun hn => ?_⟩
  obtain ⟨b, off, ha, hc⟩ := h3 hn
  exact ⟨b, off, ha, fun i j hi hj => by rw [hc i j hi hj, hcd i j hi hj]⟩

/-- a slice of ints -/
def Ints (w : World) (v : Value) (l : List Int) : Prop := Arr w v l.length 1 (fun i _ => .int .i64 (nth l i))
/-- a slice of bytes -/
def Bytes (w : World) (v : Value) (l : List UInt8) : Prop := Arr w v l.length 1 (fun i _ => .int .u8 ((nth l i).toNat : Int))

structure Ln where
  At : Int
  N : Int
  deriving Inhabited
structure Ed where
  From : Int
  To : Int
  Count : Int
  deriving Inhabited
structure Fu where
  Name : ByteArray
  Start : Int
  Size : Int
  deriving Inhabited
def Ln.c (x : Ln) : Nat → Value | 0 => .int .i64 x.At | _ => .int .i64 x.N
def Ed.c (x : Ed) : Nat → Value | 0 => .int .i64 x.From | 1 => .int .i64 x.To | _ => .int .i64 x.Count
def Fu.c (x : Fu) : Nat → Value | 0 => .string x.Name | 1 => .int .i64 x.Start | _ => .int .i64 x.Size
def Lines (w : World) (v : Value) (l : List Ln) : Prop := Arr w v l.length 2 (fun i j => (nth l i).c j)
def Edges (w : World) (v : Value) (l : List Ed) : Prop := Arr w v l.length 3 (fun i j => (nth l i).c j)
def Funs (w : World) (v : Value) (l : List Fu) : Prop := Arr w v l.length 3 (fun i j => (nth l i).c j)
def Tabs (w : World) (v : Value) (l : List (List Int)) : Prop :=
  ∃ tv : Nat → Value, Arr w v l.length 1 (fun i _ => tv i) ∧ ∀ i, i < l.length → Ints w (tv i) (nth l i)
theorem Tabs.keep {w w' : World} {v : Value} {l : List (List Int)} (h : Tabs w v l) (hk : Keeps w w') : Tabs w' v l := by
  obtain ⟨tv, h1, h2⟩ := h
  exact ⟨tv, h1.keep hk, fun i hi => (h2 i hi).keep hk⟩

structure Img where
  Text : List UInt8
  Funcs : List Fu
  Tables : List (List Int)
  Data : List Int
  Lines : List Ln
  Entry : Int
  deriving Inhabited
def ImgAt (w : World) (v : Value) (m : Img) : Prop :=
  ∃ v0 v1 v2 v3 v4, v = .agg #[v0, v1, v2, v3, v4, .int .i64 m.Entry] ∧ Bytes w v0 m.Text ∧ Funs w v1 m.Funcs ∧ Tabs w v2 m.Tables ∧ Ints w v3 m.Data ∧ Lines w v4 m.Lines
theorem ImgAt.keep {w w' : World} {v : Value} {m : Img} (h : ImgAt w v m) (hk : Keeps w w') : ImgAt w' v m := by
  obtain ⟨v0, v1, v2, v3, v4, hv, h0, h1, h2, h3, h4⟩ := h
  exact ⟨v0, v1, v2, v3, v4, hv, Arr.keep h0 hk, Arr.keep h1 hk, h2.keep hk, Arr.keep h3 hk, Arr.keep h4 hk⟩

end Go.Proofs.YtpgifkhgefbnfaaDoor.BH
end
section
namespace Go.Proofs.YtpgifkhgefbnfaaDoor
open Go.RowKit BH

theorem in_yes (n lo hi : Int) (w : World) (h1 : lo ≤ n) (h2 : n ≤ hi) :
    Calls Tryd.prog 21 #[.int .i64 n, .int .i64 lo, .int .i64 hi] w fun e w' => e = .returned (.bool true) ∧ w = w' := by
  go_enter Tryd.func21, Tryd.ntmps21
  go_wp2
  go_ret
  exact ⟨by simp <;> omega, rfl⟩
theorem in_no (n lo hi : Int) (w : World) (h : n < lo ∨ hi < n) :
    Calls Tryd.prog 21 #[.int .i64 n, .int .i64 lo, .int .i64 hi] w fun e w' => e = .returned (.bool false) ∧ w = w' := by
  go_enter Tryd.func21, Tryd.ntmps21
  go_wp2
  all_goals
    go_ret
    exact ⟨by simp <;> omega, rfl⟩

end Go.Proofs.YtpgifkhgefbnfaaDoor
end
section
namespace Go.Proofs.YtpgifkhgefbnfaaDoor.BH
open Go.RowKit

/-- an instruction, as it lies in a block -/
structure Ic where
  K : Int
  D : Int
  A : Int
  B : Int
  N : Int
  Lg : Bool
  deriving Inhabited
def Ic.c (x : Ic) : Nat → Value | 0 => .int .i64 x.K | 1 => .int .i64 x.D | 2 => .int .i64 x.A | 3 => .int .i64 x.B | 4 => .int .i64 x.N | _ => .bool x.Lg
def Instrs (w : World) (v : Value) (l : List Ic) : Prop := Arr w v l.length 6 (fun i j => (nth l i).c j)
structure Bk where
  Func : Int
  Start : Int
  Code : List Ic
  At : List Int
  Last : Ic
  Ends : Int
  To : Int
  Else : Int
  Lines : List Int
  deriving Inhabited
def Bk.c (x : Bk) (cv av lv : Value) : Nat → Value
  | 0 => .int .i64 x.Func | 1 => .int .i64 x.Start | 2 => cv | 3 => av
  | 4 => x.Last.c 0 | 5 => x.Last.c 1 | 6 => x.Last.c 2 | 7 => x.Last.c 3 | 8 => x.Last.c 4 | 9 => x.Last.c 5
  | 10 => .int .i64 x.Ends | 11 => .int .i64 x.To | 12 => .int .i64 x.Else | _ => lv
def Blocks (w : World) (v : Value) (l : List Bk) : Prop :=
  ∃ cv av lv : Nat → Value, Arr w v l.length 14 (fun i j => (nth l i).c (cv i) (av i) (lv i) j) ∧
    ∀ i, i < l.length → Instrs w (cv i) (nth l i).Code ∧ Ints w (av i) (nth l i).At ∧ Ints w (lv i) (nth l i).Lines
theorem Blocks.keep {w w' : World} {v : Value} {l : List Bk} (h : Blocks w v l) (hk : Keeps w w') : Blocks w' v l := by
  obtain ⟨cv, av, lv, h1, h2⟩ := h
  exact ⟨cv, av, lv, h1.keep hk, fun i hi => ⟨Arr.keep (h2 i hi).1 hk, Arr.keep (h2 i hi).2.1 hk, Arr.keep (h2 i hi).2.2 hk⟩⟩
structure Fl where
  Blocks : List Bk
  Tables : List (List Int)
  Firsts : List Int
  deriving Inhabited
def FlowAt (w : World) (v : Value) (f : Fl) : Prop := ∃ v0 v1 v2, v = .agg #[v0, v1, v2] ∧ Blocks w v0 f.Blocks ∧ Tabs w v1 f.Tables ∧ Ints w v2 f.Firsts
theorem FlowAt.keep {w w' : World} {v : Value} {f : Fl} (h : FlowAt w v f) (hk : Keeps w w') : FlowAt w' v f := by
  obtain ⟨v0, v1, v2, hv, h0, h1, h2⟩ := h
  exact ⟨v0, v1, v2, hv, h0.keep hk, h1.keep hk, Arr.keep h2 hk⟩
/-- The call returns a value and an error's number; all that was there is as it was. -/
def GivesN (P : Value → World → Prop) (er : Int) (w : World) (e : Ending) (w' : World) : Prop := ∃ v, e = .returned (.tuple #[v, .int .i64 er]) ∧ P v w' ∧ Keeps w w'
end Go.Proofs.YtpgifkhgefbnfaaDoor.BH
end
section
namespace Go.Proofs.YtpgifkhgefbnfaaDoor.BH
open Go.RowKit Go.ChangeShapes Go.WideShapes Go.Deep

/-- what the form's own reach says of a datum -/
def Fits {H : Type} (P : Program) (t : TypeId) (d : DataW H) : Prop := ∀ n ∈ d.weights P t, n ≤ reachBytes

section
variable {H : Type} {enc : TypeId × Value → H} {P : Program} {w : World}

theorem fits_each {ts : List TypeId} {ds : List (DataW H)} (h : (DataW.weightsEach P ts ds).all (· ≤ reachBytes) = true) {j : Nat} {t : TypeId} {d : DataW H} (ht : ts[j]? = some t) (hd : ds[j]? = some d) : Fits P t d := fun n hn => by
  simpa using List.all_eq_true.1 h n (DataW.weights_mem_each ht hd n hn)

theorem mem_weightsAll {e : TypeId} {l : List (DataW H)} {d : DataW H} (h : d ∈ l) {n : Nat} (hn : n ∈ d.weights P e) : n ∈ DataW.weightsAll P e l := by
  induction l with
  | nil => cases h
  | cons x r ih =>
    simp only [DataW.weightsAll, List.mem_append]
    cases List.mem_cons.1 h with
    | inl e => subst e; exact Or.inl hn
    | inr e => exact Or.inr (ih e)

/-- A SLICE, OPENED. -/
theorem arr_open {t e : TypeId} {fuel k : Nat} {c : Value} {x : DataW H × List MemPlace} (ht : P.underlying t = some (.slice e)) (hk : P.cellsOf e = k) (hk0 : 0 < k)
    (h : DataW.trod enc P w 0 (fun _ => true) true fuel t [c] = some x) (hf : Fits P t x.1) :
    ∃ (n m : Nat) (cs : Nat → Nat → Value), Arr w c n k cs ∧ n * P.bytesOf e ≤ reachBytes ∧ ∀ i, i < n → ∃ y, DataW.trod enc P w 0 (fun _ => true) true m e ((List.range k).map (cs i)) = some y ∧ Fits P e y.1 := by
  rcases open_slice ht h with ⟨hc, _⟩ | ⟨a, len, cap, m, fu, D, Pl, hc, _, hl, hm, hmm, rfl, hx⟩
  · simp only [List.cons.injEq, and_true] at hc
    subst hc
    exact ⟨0, 0, fun _ _ => undef, ⟨none, 0, rfl, Nat.le_refl _, by unfold maxLen; omega, fun _ => rfl, fun h => absurd h (Nat.lt_irrefl _)⟩, by simp, fun i hi => absurd hi (Nat.not_lt_zero _)⟩
  · simp only [List.cons.injEq, and_true] at hc
    subst hc
    have hmc : m = cap := by simpa using hmm
    subst hmc
    rw [hk] at hx
    obtain ⟨C, hC⟩ := choose_lt (α := List Value) (p := fun i cs' => w.cells? 0 (a.add (i * k)) k = some cs' ∧ DataW.trod enc P w 0 (fun _ => true) true fu e cs' = some (D i, Pl i)) hx
    have hcell : ∀ i j, i < m → j < k → w.cell? ((a.add (i * k)).add j) = some ((C i).getD j undef) ∧ (C i).length = k := by
      intro i j hi hj
      obtain ⟨_, hlen, hcs⟩ := World.cells?_some (hC i hi).1
      refine ⟨?_, hlen⟩
      rw [hcs j hj]
      simp [List.getElem?_eq_getElem (show j < (C i).length by omega)]
    refine ⟨len, fu, fun i j => (C i).getD j undef, ⟨some a, m, rfl, hl, hm, (fun h => by cases h), fun hn => ?_⟩, ?_, fun i hi => ⟨(D i, Pl i), ?_, ?_⟩⟩
    · have h0 := (hcell 0 0 (by omega) hk0).1
      have hspot : a.spot = none := by
        rw [Nat.zero_mul] at h0
        simp only [Addr.add, ↓reduceIte] at h0
        unfold World.cell? at h0
        cases hs : a.spot with
        | none => rfl
        | some _ =>
          simp only [hs, Option.isSome_some, ↓reduceIte] at h0
          split at h0 <;> cases h0
      obtain ⟨ab, ao, asp⟩ := a
      obtain rfl : asp = none := hspot
      refine ⟨ab, ao, rfl, fun i j hi hj => ?_⟩
      rw [← (hcell i j (by omega) hj).1, add_add]
      unfold Addr.add
      split
      · rename_i h00
        rw [show ao + i * k + j = ao by omega]
      · rw [Nat.add_assoc]
    · have := hf ((((List.range len).map D).length + ((List.range (m - len)).map fun j => D (len + j)).length) * P.bytesOf e) (by simp [DataW.weights, ht])
      simp only [List.length_map, List.length_range] at this
      exact Nat.le_trans (Nat.mul_le_mul_right _ (by omega)) this
    · rw [← (hC i (by omega)).2]
      refine congrArg _ ?_
      obtain ⟨_, hlen⟩ := hcell i 0 (by omega) hk0
      apply List.ext_getElem?
      intro j
      by_cases hj : j < k
      · simp [hj, List.getElem?_eq_getElem (show j < (C i).length by omega)]
      · simp [Nat.le_of_not_lt hj, hlen]
    · intro n hn
      refine hf n ?_
      simp only [DataW.weights, ht, List.mem_cons, List.mem_append]
      exact Or.inr (Or.inl (mem_weightsAll (List.mem_map.2 ⟨i, List.mem_range.2 hi, rfl⟩) hn))

/-- an int of 64 bits -/
def I64 (x : Int) : Prop := -9223372036854775808 ≤ x ∧ x ≤ 9223372036854775807
theorem int_open {t : TypeId} {fuel : Nat} {c : Value} {x : DataW H × List MemPlace} {base : Nat} {sp : Nat → Bool} {hd : Bool} (ht : P.underlying t = some (.int .i64)) (h : DataW.trod enc P w base sp hd fuel t [c] = some x) : ∃ z : Int, c = .int .i64 z ∧ I64 z := by
  obtain ⟨z, hc, _, hw⟩ := DataW.trod_int ht h
  simp only [List.cons.injEq, and_true] at hc
  exact ⟨z, hc, by simpa [Lit.wf, IntKind.min, IntKind.max, IntKind.signed, IntKind.bits, I64] using hw⟩
theorem byte_open {t : TypeId} {fuel : Nat} {c : Value} {x : DataW H × List MemPlace} {base : Nat} {sp : Nat → Bool} {hd : Bool} (ht : P.underlying t = some (.int .u8)) (h : DataW.trod enc P w base sp hd fuel t [c] = some x) : ∃ z : UInt8, c = .int .u8 (z.toNat : Int) := by
  obtain ⟨z, hc, _, hw⟩ := DataW.trod_int ht h
  simp only [List.cons.injEq, and_true] at hc
  have hb : 0 ≤ z ∧ z ≤ 255 := by simpa [Lit.wf, IntKind.min, IntKind.max, IntKind.signed, IntKind.bits] using hw
  refine ⟨UInt8.ofNat z.toNat, ?_⟩
  rw [hc]
  congr 1
  simp only [UInt8.toNat_ofNat']
  omega
theorem nth_map_range {α : Type} [Inhabited α] (f : Nat → α) {n i : Nat} (h : i < n) : nth ((List.range n).map f) i = f i := by
  rw [nth_eq _ _ (by simpa using h)]; simp

theorem ints_open {t e : TypeId} {fuel : Nat} {c : Value} {x : DataW H × List MemPlace} (ht : P.underlying t = some (.slice e)) (hk : P.cellsOf e = 1) (he : P.underlying e = some (.int .i64)) (hby : P.bytesOf e = 8)
    (h : DataW.trod enc P w 0 (fun _ => true) true fuel t [c] = some x) (hf : Fits P t x.1) : ∃ l : List Int, Ints w c l ∧ (∀ i, i < l.length → I64 (nth l i)) ∧ l.length * 8 ≤ reachBytes := by
  obtain ⟨n, m, cs, ha, hb, hx⟩ := arr_open ht hk (by omega) h hf
  obtain ⟨f, hfz⟩ := choose_lt (α := Int) (p := fun i z => cs i 0 = .int .i64 z ∧ I64 z) (fun i hi => by
    obtain ⟨y, hy, _⟩ := hx i hi
    exact int_open he hy)
  refine ⟨(List.range n).map f, ?_, fun i hi => ?_, by simpa [hby] using hb⟩
  · unfold Ints
    simp only [List.length_map, List.length_range]
    exact ha.congr fun i j hi hj => by rw [nth_map_range f hi, show j = 0 by omega]; exact (hfz i hi).1
  · simp only [List.length_map, List.length_range] at hi
    rw [nth_map_range f hi]; exact (hfz i hi).2
theorem bytes_open {t e : TypeId} {fuel : Nat} {c : Value} {x : DataW H × List MemPlace} (ht : P.underlying t = some (.slice e)) (hk : P.cellsOf e = 1) (he : P.underlying e = some (.int .u8)) (hby : P.bytesOf e = 1)
    (h : DataW.trod enc P w 0 (fun _ => true) true fuel t [c] = some x) (hf : Fits P t x.1) : ∃ l : List UInt8, Bytes w c l ∧ l.length ≤ reachBytes := by
  obtain ⟨n, m, cs, ha, hb, hx⟩ := arr_open ht hk (by omega) h hf
  obtain ⟨f, hfz⟩ := choose_lt (α := UInt8) (p := fun i z => cs i 0 = .int .u8 (z.toNat : Int)) (fun i hi => by
    obtain ⟨y, hy, _⟩ := hx i hi
    exact byte_open he hy)
  refine ⟨(List.range n).map f, ?_, by simpa [hby] using hb⟩
  unfold Bytes
  simp only [List.length_map, List.length_range]
  exact ha.congr fun i j hi hj => by rw [nth_map_range f hi, show j = 0 by omega]; exact hfz i hi

/-- The arguments read behind the call as before it. -/
theorem args_keep {W W' : World} (hl : laidOutB P = true) : ∀ {ts : List TypeId} {vs : List Value} {ds : List (DataW H)} {ps : List MemPlace},
    (∀ t ∈ ts, P.readableRec t = true ∧ t < P.types.size) → Below W.heap.size W W' → (∀ x ∈ ps, x.block < W.heap.size) →
    DataW.TrodAll enc P W 0 (fun _ => true) true ts vs ds ps → DataW.TrodAll enc P W' 0 (fun b => decide (b < W.heap.size)) true ts vs ds ps
  | [], vs, ds, ps, _, _, _, h => by
    obtain ⟨rfl, rfl, rfl⟩ := trodAll_nil h
    exact rfl
  | t :: ts, vs, ds, ps, hr, hb, hlt, h => by
    obtain ⟨v, vs', d, ds', p, q, rfl, rfl, rfl, h0, h1⟩ := trodAll_cons h
    exact ⟨p, q, Below.trod hl (hr t (by simp)).1 (hr t (by simp)).2 h0 hb (fun x hx => hlt x (by simp [hx])),
      args_keep hl (fun u hu => hr u (by simp [hu])) hb (fun x hx => hlt x (by simp [hx])) h1, rfl⟩

/-- WHAT A LAW's ROW ASKS, out of its contract: it has returned true and turned nothing. -/
theorem law_post {fn : Func} {s : ChangeSpec} {W W' : World} {args : Array Value} {ds gs : List (DataW H)} {before : List MemPlace} {tb : TypeId}
    (hl : laidOutB P = true) (hr : ∀ t ∈ fn.params.toList, P.readableRec t = true ∧ t < P.types.size) (hres : fn.resultTypes = #[tb]) (htb : P.underlying tb = some .bool)
    (hs : (s.fn H (ds ++ gs)).results = [.lit (.bool true)]) (hsa : (s.fn H (ds ++ gs)).args = ds) (hsv : (s.fn H (ds ++ gs)).vars = []) (hv : s.vars = [])
    (hW : DataW.Whole enc P fn.params.toList s.vars false W args.toList ds gs before) (hb : Keeps W W') :
    s.post enc P fn false true false false W args (.bool true) W' := by
  have hW' := hW
  obtain ⟨p, q, hA, hV, rfl, hfz, hnd⟩ := hW
  refine ⟨ds, gs, p ++ q, [], p, [], hW', ?_, ?_, ?_, Below.frame hb _, fun h => by cases h⟩
  · rw [hres, hs]
    exact trodAll_cons_mk (shut_bool htb true) trodAll_mk0
  · rw [hsa]
    exact args_keep hl hr hb (fun x hx => hW'.lt x (by simp [hx])) hA
  · rw [hsv, hv]; exact rfl
end
end Go.Proofs.YtpgifkhgefbnfaaDoor.BH
end
