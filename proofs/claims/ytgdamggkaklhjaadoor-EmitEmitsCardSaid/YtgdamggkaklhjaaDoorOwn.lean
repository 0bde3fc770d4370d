/-
A slice that the call itself has made, its elements those of
-/
import Derived.Test.YtgdamggkaklhjaaDoorLift
import Derived.Laws.AppendOwnNone
set_option linter.all false
namespace Go.Proofs.YtgdamggkaklhjaaDoor.BH
open Go.RowKit

theorem flatMap_at {α β : Type} [Inhabited α] {f : α → List β} {k : Nat} (hf : ∀ x, (f x).length = k) : ∀ (l : List α) (i j : Nat), i < l.length → j < k → (l.flatMap f)[i * k + j]? = (f (nth l i))[j]?
 | [], i, _, hi, _ => absurd hi (Nat.not_lt_zero _)
 | x :: l, 0, j, _, hj => by simp only [List.flatMap_cons, Nat.zero_mul, Nat.zero_add]; (rw [List.getElem?_append_left (by rw [hf]; exact hj)]); rfl
 | x :: l, i + 1, j, hi, hj => by (have := flatMap_at hf l i j (by simpa using hi) hj); simp only [List.flatMap_cons]; (rw [List.getElem?_append_right (by rw [hf, Nat.add_mul]; omega), hf, show (i + 1) * k + j - k = i * k + j by rw [Nat.add_mul]; omega, this]); rfl
theorem flatMap_len {α β : Type} {f : α → List β} {k : Nat} (hf : ∀ x, (f x).length = k) (l : List α) : (l.flatMap f).length = l.length * k := by
 induction l with
 | nil => simp
 | cons x l ih => simp only [List.flatMap_cons, List.length_append, hf, ih, List.length_cons, Nat.add_mul, Nat.one_mul]; omega

theorem heap_alloc_get (w : World) (o : Obj) (g : Nat) : (w.alloc o).heap[g]? = if g = w.heap.size then some o else w.heap[g]? := by
 show (w.heap.push o)[g]? = _
 rw [Array.getElem?_push]

theorem heap_top (w : World) (o : Obj) (g : Nat) (h : g = w.heap.size) : (w.alloc o).heap[g]? = some o := by rw [heap_alloc_get, if_pos h]
def Blk (w : World) (g : Nat) (o : Obj) : Prop := w.heap[g]? = some o
theorem Blk.top (w : World) (o : Obj) : Blk (w.alloc o) w.heap.size o := heap_top w o _ rfl
theorem Blk.top' (w : World) (o : Obj) {g : Nat} (h : g = w.heap.size) : Blk (w.alloc o) g o := heap_top w o _ h
theorem Blk.lt {w : World} {g : Nat} {o : Obj} (h : Blk w g o) : g < w.heap.size := by
 by_cases hb : g < w.heap.size
 ·exact hb
 simp [Blk, Array.getElem?_eq_none (Nat.le_of_not_lt hb)] at h
theorem Blk.keep {w w' : World} {g : Nat} {o : Obj} (h : Blk w g o) (hk : Keeps w w') : Blk w' g o := (Below.block hk g h.lt).trans h
theorem Blk.below {w w' : World} {g B : Nat} {o : Obj} (h : Blk w g o) (hb : Below B w w') (hlt : g < B) : Blk w' g o := (Below.block hb g hlt).trans h
theorem Blk.cell {w : World} {g : Nat} {c : Array Value} {e : TypeId} {fz : Nat × Nat} (h : Blk w g (.cells c e fz)) {j : Nat} {u : Value} (hu : c[j]? = some u) : w.cell? ⟨g, j, none⟩ = some u := by
 simp only [Blk] at h
 simp only [World.cell?, h, Option.isSome_none, Bool.false_eq_true, if_false]
 exact hu

def ci (x : Int) : List Value := [.int .i64 x]
def cb (x : UInt8) : List Value := [.int .u8 (x.toNat : Int)]
theorem ci_len (x : Int) : (ci x).length = 1 := rfl
theorem cb_len (x : UInt8) : (cb x).length = 1 := rfl
theorem ci_one (x : Int) : ∀ u ∈ ci x, u.oneCell' = true := by intro u hu; simp only [ci, List.mem_singleton] at hu; subst hu; rfl
theorem cb_one (x : UInt8) : ∀ u ∈ cb x, u.oneCell' = true := by intro u hu; simp only [cb, List.mem_singleton] at hu; subst hu; rfl

def Own {α : Type} (w : World) (base : Nat) (e : TypeId) (k : Nat) (f : α → List Value) (v : Value) (l : List α) : Prop := w.ownsRow base e k v l.length (l.flatMap f)

theorem Own.nil {α : Type} (w : World) (base : Nat) (e : TypeId) (k : Nat) (f : α → List Value) : Own w base e k f (.slice none 0 0) [] := ⟨by simp, Or.inl ⟨rfl, rfl⟩⟩
theorem lt_of_block {w : World} {g : Nat} {o : Obj} (h : w.heap[g]? = some o) : g < w.heap.size := by
 by_cases hb : g < w.heap.size
 ·exact hb
 simp [Array.getElem?_eq_none (Nat.le_of_not_lt hb)] at h
theorem Keeps.block {w w' : World} (h : Keeps w w') {g : Nat} {o : Obj} (hg : w.heap[g]? = some o) : w'.heap[g]? = some o := (Below.block h g (lt_of_block hg)).trans hg
theorem Own.keep {α : Type} {w w' : World} {base : Nat} {e : TypeId} {k : Nat} {f : α → List Value} {v : Value} {l : List α} (h : Own w base e k f v l) (hk : Keeps w w') : Own w' base e k f v l := by
 obtain ⟨h1, h2⟩ := h
 refine ⟨h1, ?_⟩
 rcases h2 with h2 | ⟨g, cap, cur, hv, hb, hg, r⟩
 ·exact Or.inl h2
 exact Or.inr ⟨g, cap, cur, hv, hb, hk.block hg, r⟩
theorem Own.mono {α : Type} {w : World} {base base' : Nat} {e : TypeId} {k : Nat} {f : α → List Value} {v : Value} {l : List α} (h : Own w base e k f v l) (hb : base' ≤ base) : Own w base' e k f v l := by
 obtain ⟨h1, h2⟩ := h
 refine ⟨h1, ?_⟩
 rcases h2 with h2 | ⟨g, cap, cur, hv, H0, r⟩
 ·exact Or.inl h2
 exact Or.inr ⟨g, cap, cur, hv, Nat.le_trans hb H0, r⟩
theorem Own.arr {α : Type} [Inhabited α] {w : World} {base : Nat} {e : TypeId} {k : Nat} {f : α → List Value} {v : Value} {l : List α} (h : Own w base e k f v l) (hf : ∀ x, (f x).length = k) :
  Arr w v l.length k (fun i j => (f (nth l i)).getD j undef) := by
 obtain ⟨h1, h2⟩ := h
 rcases h2 with ⟨rfl, h0⟩ | ⟨g, cap, cur, rfl, hb, hg, hn, hm, hsz, hx⟩
 ·exact ⟨none, 0, by rw [h0], by omega, by unfold maxLen; omega, fun _ => rfl, fun h => absurd h (by omega)⟩
 refine ⟨some ⟨g, 0, none⟩, cap, rfl, hn, hm, (fun h => by cases h), fun _ => ⟨g, 0, rfl, fun i j hi hj => ?_⟩⟩
 have H0 : i * k + j < l.length * k := by have : (i + 1) * k ≤ l.length * k := Nat.mul_le_mul_right _ hi; rw [Nat.add_mul] at this; omega
 have h3 : (cur.toList.take (l.length * k))[i * k + j]? = cur.toList[i * k + j]? := List.getElem?_take_of_lt H0
 rw [hx, flatMap_at hf l i j hi hj] at h3
 simp only [World.cell?, hg, Option.isSome_none, Bool.false_eq_true, if_false, Nat.zero_add]
 rw [← Array.getElem?_toList, ← h3, List.getElem?_eq_getElem (by rw [hf]; exact hj), List.getD_eq_getElem?_getD, List.getElem?_eq_getElem (by rw [hf]; exact hj)]
 rfl

theorem Own.of_block {α : Type} {w : World} {base : Nat} {e : TypeId} {k : Nat} {f : α → List Value} {l : List α} {g : Nat} (hf : ∀ x, (f x).length = k) (hb : base ≤ g) (hg : w.heap[g]? = some (.cells (l.flatMap f).toArray e (0, 0))) (hm : l.length ≤ maxLen) :
  Own w base e k f (.slice (some ⟨g, 0, none⟩) l.length l.length) l :=
 ⟨flatMap_len hf l, Or.inr ⟨g, l.length, (l.flatMap f).toArray, rfl, hb, hg, Nat.le_refl _, hm, by simpa using flatMap_len hf l, by rw [← flatMap_len hf l]; exact List.take_length⟩⟩

theorem Own.ints {w : World} {base : Nat} {e : TypeId} {v : Value} {l : List Int} (h : Own w base e 1 ci v l) : Ints w v l :=
 (h.arr ci_len).congr fun i j _ hj => by rw [show j = 0 by omega]; rfl
theorem Own.bytes {w : World} {base : Nat} {e : TypeId} {v : Value} {l : List UInt8} (h : Own w base e 1 cb v l) : Bytes w v l :=
 (h.arr cb_len).congr fun i j _ hj => by rw [show j = 0 by omega]; rfl

theorem below_grown {w w' : World} {row : Option Nat} (hg : w.grownBy w' row) {B : Nat} (hB : B ≤ w.heap.size) (hr : ∀ k, row = some k → B ≤ k) : Below B w w' := (Below.refl B w).grown hg hB hr
theorem Own.row {α : Type} {w : World} {base : Nat} {e : TypeId} {k : Nat} {f : α → List Value} {v : Value} {l : List α} (h : Own w base e k f v l) : ∀ g, v.ownBlock = some g → base ≤ g := by
 intro g hg
 rcases h.2 with ⟨rfl, _⟩ | ⟨g', cap, cur, rfl, hb, _⟩
 ·cases hg
 cases hg; exact hb

def NewAt (B : Nat) (v : Value) : Prop := ∀ g, v.ownBlock = some g → B ≤ g
theorem NewAt.nil (B n c : Nat) : NewAt B (.slice none n c) := fun _ h => by cases h
theorem Arr.grown {w w' : World} {v : Value} {n k : Nat} {c : Nat → Nat → Value} (h : Arr w v n k c) {row : Option Nat} (hg : w.grownBy w' row) (hne : 0 < n → ∀ g, v.ownBlock = some g → g < w.heap.size → some g ≠ row) : Arr w' v n k c := by
 obtain ⟨ao, H0, rfl, h1, h2, h4, h3⟩ := h
 refine ⟨ao, H0, rfl, h1, h2, h4, fun hn => ?_⟩
 obtain ⟨b, H1, rfl, hc⟩ := h3 hn
 refine ⟨b, H1, rfl, fun i j hi hj => hg.cell (hc i j hi hj) (hne hn b rfl ?_)⟩
 exact lt_of_cell (hc i j hi hj)
theorem grown_setCell (w : World) (b o : Nat) (u : Value) : w.grownBy (w.setCell ⟨b, o, none⟩ u) (some b) := by
 have hb := Below.setCell (Below.refl 0 w) (p := ⟨b, o, none⟩) (Nat.zero_le _) u
 refine ⟨hb.os, hb.tape, hb.output, hb.size, fun k hk hne => ?_⟩
 have H0 : ¬ b = k := fun e => hne (by rw [e])
 simp [World.setCell, Array.getElem?_modify, H0]
theorem Blk.set {w : World} {g : Nat} {c : Array Value} {e : TypeId} {fz : Nat × Nat} (h : Blk w g (.cells c e fz)) (j : Nat) (u : Value) : Blk (w.setCell ⟨g, j, none⟩ u) g (.cells (c.setIfInBounds j u) e fz) := by
 have h' : w.heap[g]? = some (.cells c e fz) := h
 simp [Blk, World.setCell, Array.getElem?_modify, h']
theorem Blk.grown {w w' : World} {g : Nat} {o : Obj} (h : Blk w g o) {row : Option Nat} (hg : w.grownBy w' row) (hne : some g ≠ row) : Blk w' g o := (hg.block g h.lt hne).trans h
theorem Blk.thawed {w : World} {g : Nat} {c : Array Value} {e : TypeId} (h : Blk w g (.cells c e (0, 0))) (j : Nat) : w.frozen? ⟨g, j, none⟩ = false := by
 have h' : w.heap[g]? = some (.cells c e (0, 0)) := h
 simp [World.frozen?, h']
theorem jt {w : World} {g : Nat} {o : Obj} (h : Blk w g o := by exact Blk.top' _ _ (by first | rfl | simp)) : Blk w g o := h
theorem Blk.k2 {w : World} {g : Nat} {c : Array Value} {v0 v1 : Value} {e : TypeId} {fz : Nat × Nat} (h : Blk w g (.cells c e fz)) (h0 : c[0]? = some v0 := by exact rfl) (h1 : c[1]? = some v1 := by exact rfl) : w.cell? ⟨g, 0, none⟩ = some v0 ∧ w.cell? ⟨g, 1, none⟩ = some v1 :=
 ⟨h.cell h0, h.cell h1⟩
theorem Blk.k3 {w : World} {g : Nat} {c : Array Value} {v0 v1 v2 : Value} {e : TypeId} {fz : Nat × Nat} (h : Blk w g (.cells c e fz)) (h0 : c[0]? = some v0 := by exact rfl) (h1 : c[1]? = some v1 := by exact rfl) (h2 : c[2]? = some v2 := by exact rfl) : w.cell? ⟨g, 0, none⟩ = some v0 ∧ w.cell? ⟨g, 1, none⟩ = some v1 ∧ w.cell? ⟨g, 2, none⟩ = some v2 :=
 ⟨h.cell h0, h.cell h1, h.cell h2⟩
theorem Blk.k4 {w : World} {g : Nat} {c : Array Value} {v0 v1 v2 v3 : Value} {e : TypeId} {fz : Nat × Nat} (h : Blk w g (.cells c e fz)) (h0 : c[0]? = some v0 := by exact rfl) (h1 : c[1]? = some v1 := by exact rfl) (h2 : c[2]? = some v2 := by exact rfl) (h3 : c[3]? = some v3 := by exact rfl) : w.cell? ⟨g, 0, none⟩ = some v0 ∧ w.cell? ⟨g, 1, none⟩ = some v1 ∧ w.cell? ⟨g, 2, none⟩ = some v2 ∧ w.cell? ⟨g, 3, none⟩ = some v3 :=
 ⟨h.cell h0, h.cell h1, h.cell h2, h.cell h3⟩
theorem Blk.k5 {w : World} {g : Nat} {c : Array Value} {v0 v1 v2 v3 v4 : Value} {e : TypeId} {fz : Nat × Nat} (h : Blk w g (.cells c e fz)) (h0 : c[0]? = some v0 := by exact rfl) (h1 : c[1]? = some v1 := by exact rfl) (h2 : c[2]? = some v2 := by exact rfl) (h3 : c[3]? = some v3 := by exact rfl) (h4 : c[4]? = some v4 := by exact rfl) : w.cell? ⟨g, 0, none⟩ = some v0 ∧ w.cell? ⟨g, 1, none⟩ = some v1 ∧ w.cell? ⟨g, 2, none⟩ = some v2 ∧ w.cell? ⟨g, 3, none⟩ = some v3 ∧ w.cell? ⟨g, 4, none⟩ = some v4 :=
 ⟨h.cell h0, h.cell h1, h.cell h2, h.cell h3, h.cell h4⟩
theorem Blk.k6 {w : World} {g : Nat} {c : Array Value} {v0 v1 v2 v3 v4 v5 : Value} {e : TypeId} {fz : Nat × Nat} (h : Blk w g (.cells c e fz)) (h0 : c[0]? = some v0 := by exact rfl) (h1 : c[1]? = some v1 := by exact rfl) (h2 : c[2]? = some v2 := by exact rfl) (h3 : c[3]? = some v3 := by exact rfl) (h4 : c[4]? = some v4 := by exact rfl) (h5 : c[5]? = some v5 := by exact rfl) : w.cell? ⟨g, 0, none⟩ = some v0 ∧ w.cell? ⟨g, 1, none⟩ = some v1 ∧ w.cell? ⟨g, 2, none⟩ = some v2 ∧ w.cell? ⟨g, 3, none⟩ = some v3 ∧ w.cell? ⟨g, 4, none⟩ = some v4 ∧ w.cell? ⟨g, 5, none⟩ = some v5 :=
 ⟨h.cell h0, h.cell h1, h.cell h2, h.cell h3, h.cell h4, h.cell h5⟩
theorem Blk.t2 {w : World} {g : Nat} {c : Array Value} {e : TypeId} (h : Blk w g (.cells c e (0, 0))) : w.frozen? ⟨g, 0, none⟩ = false ∧ w.frozen? ⟨g, 1, none⟩ = false :=
 ⟨h.thawed 0, h.thawed 1⟩
theorem Blk.t3 {w : World} {g : Nat} {c : Array Value} {e : TypeId} (h : Blk w g (.cells c e (0, 0))) : w.frozen? ⟨g, 0, none⟩ = false ∧ w.frozen? ⟨g, 1, none⟩ = false ∧ w.frozen? ⟨g, 2, none⟩ = false :=
 ⟨h.thawed 0, h.thawed 1, h.thawed 2⟩
theorem Blk.t4 {w : World} {g : Nat} {c : Array Value} {e : TypeId} (h : Blk w g (.cells c e (0, 0))) : w.frozen? ⟨g, 0, none⟩ = false ∧ w.frozen? ⟨g, 1, none⟩ = false ∧ w.frozen? ⟨g, 2, none⟩ = false ∧ w.frozen? ⟨g, 3, none⟩ = false :=
 ⟨h.thawed 0, h.thawed 1, h.thawed 2, h.thawed 3⟩
theorem Blk.t5 {w : World} {g : Nat} {c : Array Value} {e : TypeId} (h : Blk w g (.cells c e (0, 0))) : w.frozen? ⟨g, 0, none⟩ = false ∧ w.frozen? ⟨g, 1, none⟩ = false ∧ w.frozen? ⟨g, 2, none⟩ = false ∧ w.frozen? ⟨g, 3, none⟩ = false ∧ w.frozen? ⟨g, 4, none⟩ = false :=
 ⟨h.thawed 0, h.thawed 1, h.thawed 2, h.thawed 3, h.thawed 4⟩
theorem Blk.t6 {w : World} {g : Nat} {c : Array Value} {e : TypeId} (h : Blk w g (.cells c e (0, 0))) : w.frozen? ⟨g, 0, none⟩ = false ∧ w.frozen? ⟨g, 1, none⟩ = false ∧ w.frozen? ⟨g, 2, none⟩ = false ∧ w.frozen? ⟨g, 3, none⟩ = false ∧ w.frozen? ⟨g, 4, none⟩ = false ∧ w.frozen? ⟨g, 5, none⟩ = false :=
 ⟨h.thawed 0, h.thawed 1, h.thawed 2, h.thawed 3, h.thawed 4, h.thawed 5⟩
theorem grown_below {w w1 w2 : World} {row : Option Nat} (h : w.grownBy w1 row) (k : Below w.heap.size w1 w2) : w.grownBy w2 row :=
 ⟨k.os.trans h.os, k.tape.trans h.tape, k.output.trans h.output, Nat.le_trans h.size k.size, fun b hb hne => (k.block b hb).trans (h.block b hb hne)⟩
theorem grown_trans {w w1 w2 : World} {row : Option Nat} (h : w.grownBy w1 row) (k : w1.grownBy w2 row) : w.grownBy w2 row :=
 ⟨k.os.trans h.os, k.tape.trans h.tape, k.output.trans h.output, Nat.le_trans h.size k.size, fun b hb hne => (k.block b (Nat.lt_of_lt_of_le hb h.size) hne).trans (h.block b hb hne)⟩
theorem Keeps.grown {w w' : World} (h : Keeps w w') (row : Option Nat) : w.grownBy w' row := ⟨Below.os h, Below.tape h, Below.output h, Below.size h, fun b hb _ => Below.block h b hb⟩
theorem Own.other {α : Type} {w w' : World} {row : Option Nat} (hg : w.grownBy w' row) {base : Nat} {e : TypeId} {k : Nat} {f : α → List Value} {v : Value} {l : List α} (h : Own w base e k f v l) (hne : ∀ g, v.ownBlock = some g → some g ≠ row) : Own w' base e k f v l := by
 obtain ⟨h1, h2⟩ := h
 refine ⟨h1, ?_⟩
 rcases h2 with h2 | ⟨g, cap, cur, hv, hb, H0, r⟩
 ·exact Or.inl h2
 refine Or.inr ⟨g, cap, cur, hv, hb, ?_, r⟩
 rw [hg.block g (lt_of_block H0) (hne g (by rw [hv]; rfl))]; exact H0

section
variable {P : Program} {w : World} {ops : Array Oper} {rest : List Oper} {o : Oper} {a : Act} {Q : Exit → Act → World → Prop}
theorem run_append_fresh (base : Nat) (t ty e : TypeId) (i : TypeInfo) (z : Value) (size bytes : Nat) (ht : P.underlying t = some (.slice e)) (hi : P.info? e = some i) (hz : i.zero = some z)
  (hsize : i.size = size) (hby : i.bytes = bytes) (hzs : z.cells.size = size) (hsz : 0 < size)
  (v : Value) (n : Nat) (xs : List Value) (hown : w.ownsRow base e size v n xs)
  (ad : Addr) (m c : Nat) (news : List Value) (hl : news.length = m * size) (hnews : ∀ j u, news[j]? = some u → w.cell? (ad.add j) = some u) (h1 : ∀ u ∈ news, u.oneCell' = true)
  (h63 : n + m ≤ maxLen) (hbytes : (n + m) * bytes ≤ 140737488355328) (hbase : base ≤ w.heap.size) :
  ∃ v' w', (Builtin.append_ #[t, t] ty #[v, .slice (some ad) m c]).run P w = .ok v' w' ∧ w'.ownsRow base e size v' (n + m) (xs ++ news) ∧ w.grownBy w' v.ownBlock ∧
   (∀ g, v'.ownBlock = some g → v.ownBlock = some g ∨ w.heap.size ≤ g) := by
 obtain ⟨v', w', hr, h2, h3, _⟩ := run_append_own (P := P) w base t ty e i z size bytes ht hi hz hsize hby hzs hsz v n xs hown ad m c news hl hnews h1 h63 hbytes hbase
 refine ⟨v', w', hr, h2, h3, fun g hg => ?_⟩
 subst hsize
 subst hby
 simp only [maxLen] at h63
 rcases hown.2 with ⟨rfl, rfl⟩ | ⟨g0, cap, cur, rfl, hbg, H4, hnc, hcm, H5, H3⟩
 ·have hx : xs = [] := List.eq_nil_of_length_eq_zero (by simpa using hown.1)
  subst hx
  by_cases hm : m = 0
  ·subst hm
   have hn : news = [] := List.eq_nil_of_length_eq_zero (by simpa using hl)
   subst hn
   rcases h2.2 with ⟨rfl, _⟩ | ⟨g', cap, cur, rfl, hb', hgg, _⟩
   ·cases hg
   exfalso
   have H0 : (Builtin.append_ #[t, t] ty #[.slice none 0 0, .slice (some ad) 0 c]).run P w = .ok (.slice none 0 0) w := by simp [Builtin.append_, run_underlying ht, sizeOf, typeInfo, hi, Builtin.lenOf, Builtin.firstCells, loadCells, loadCellsFrom]
   rw [H0] at hr
   simp at hr
  have H0 := run_append_nil (P := P) w t ty e i z ht hi hz ad m c news hl hnews (by omega) (by omega) (by have hb := hbytes; simp only [Nat.zero_add] at hb; omega)
  rw [H0] at hr
  injection hr with e1 e2
  subst e1
  right
  simp only [Value.ownBlock, Option.some.injEq] at hg
  omega
 by_cases hroom : n + m ≤ cap
 ·have H2 : n * i.size + news.length ≤ cur.size := by rw [hl, H5, ← Nat.add_mul]; exact Nat.mul_le_mul_right _ hroom
  have H0 := run_append_room (P := P) w t ty e i ht hi g0 n cap cur H4 ad m c news hl hnews h1 hroom H2
  rw [H0] at hr
  injection hr with e1 e2
  subst e1
  exact Or.inl hg
 have H1 : ∀ j u, xs[j]? = some u → w.cell? ((⟨g0, 0, none⟩ : Addr).add j) = some u := hown.cells (g := g0) rfl
 have H0 := run_append_grow (P := P) w t ty e i z ht hi hz ⟨g0, 0, none⟩ n cap xs hown.1 H1 ad m c news hl hnews (by omega) (by omega) (growslice_fits (by omega) hbytes)
 rw [H0] at hr
 injection hr with e1 e2
 subst e1
 right
 simp only [Value.ownBlock, Option.some.injEq] at hg
 omega

theorem wp_pushes {α : Type} {K : Act → World → Prop} (s x : Operand) (t : TypeId)
  (ho : o.op = .call { callee := .builtin .append, args := #[s, x], argTypes := #[t, t] })
  {e : TypeId} {z : Value} {k bytes : Nat} (ht : P.underlying t = some (.slice e)) (hi : (P.info? e).map (fun i => (i.zero, i.size, i.bytes)) = some (some z, k, bytes)) (hzs : z.cells.size = k) (hk : 0 < k)
  {base : Nat} {f : α → List Value} {v : Value} {l : List α} (hs : a.eval s = v) (hown : Own w base e k f v l)
  (ys : List α) (g c : Nat) (hx : a.eval x = .slice (some ⟨g, 0, none⟩) ys.length c) (hg : Blk w g (.cells (ys.flatMap f).toArray e (0, 0))) (hl : ∀ y, (f y).length = k) (h1 : ∀ y, ∀ u ∈ f y, u.oneCell' = true)
  (hbytes : (l.length + ys.length) * bytes ≤ 140737488355328) (hn : l.length + ys.length ≤ maxLen) (hbase : base ≤ w.heap.size)
  (h : ∀ v' w', Own w' base e k f v' (l ++ ys) → Below base w w' → w.grownBy w' v.ownBlock → (∀ g, v'.ownBlock = some g → v.ownBlock = some g ∨ w.heap.size ≤ g) → K (a.put o.dst v') w') : o.wp P a w K Q := by
 cases hinfo : P.info? e with
 | none => rw [hinfo] at hi; cases hi
 | some i =>
  rw [hinfo] at hi
  simp only [Option.map_some, Option.some.injEq, Prod.mk.injEq] at hi
  obtain ⟨hz, H0, H1⟩ := hi
  obtain ⟨v', w', hr, h2, h3, h4⟩ := run_append_fresh (P := P) (w := w) base t o.type e i z k bytes ht hinfo hz H0 H1 hzs hk v l.length (l.flatMap f) hown ⟨g, 0, none⟩ ys.length c (ys.flatMap f) (flatMap_len hl ys)
   (fun j u hu => by
    have hc := hg.cell (j := j) (by simpa using hu)
    unfold Addr.add
    split
    ·rename_i h0; subst h0; exact hc
    simpa using hc)
   (fun u hu => by obtain ⟨y, _, hy⟩ := List.mem_flatMap.1 hu; exact h1 y u hy) hn hbytes hbase
  unfold Oper.wp execOp
  simp only [ho, resolve, invoke, builtin, Sem.run_bind, Sem.run_pure, Result.andThen_ok, List.map_toArray, List.map_cons, List.map_nil, hs, hx, hr]
  exact h v' w' (by unfold Own; simpa using h2) (below_grown h3 hbase hown.row) h3 h4

theorem wpList_pushes {α : Type} (hgd : o.guard = none) (s x : Operand) (t : TypeId)
  (ho : o.op = .call { callee := .builtin .append, args := #[s, x], argTypes := #[t, t] })
  {e : TypeId} {z : Value} {k bytes : Nat} (ht : P.underlying t = some (.slice e)) (hi : (P.info? e).map (fun i => (i.zero, i.size, i.bytes)) = some (some z, k, bytes)) (hzs : z.cells.size = k) (hk : 0 < k)
  {base : Nat} {f : α → List Value} {v : Value} {l : List α} (hs : a.eval s = v) (hown : Own w base e k f v l)
  (ys : List α) (g c : Nat) (hx : a.eval x = .slice (some ⟨g, 0, none⟩) ys.length c) (hg : Blk w g (.cells (ys.flatMap f).toArray e (0, 0))) (hl : ∀ y, (f y).length = k) (h1 : ∀ y, ∀ u ∈ f y, u.oneCell' = true)
  (hbytes : (l.length + ys.length) * bytes ≤ 140737488355328) (hn : l.length + ys.length ≤ maxLen) (hbase : base ≤ w.heap.size)
  (h : ∀ v' w', Own w' base e k f v' (l ++ ys) → Below base w w' → w.grownBy w' v.ownBlock → (∀ g, v'.ownBlock = some g → v.ownBlock = some g ∨ w.heap.size ≤ g) → wpList P ops Q rest (a.put o.dst v') w') : wpList P ops Q (o :: rest) a w :=
 wpList_plain hgd fun _ hK => wp_pushes s x t ho ht hi hzs hk hs hown ys g c hx hg hl h1 hbytes hn hbase fun v' w' h2 h3 h4 h5 => hK _ _ (h v' w' h2 h3 h4 h5)

theorem step_push {α : Type} {K : Act → World → Prop} {E : Prop} (hgd : o.guard = none) (s x : Operand) (t : TypeId)
  (ho : o.op = .call { callee := .builtin .append, args := #[s, x], argTypes := #[t, t] })
  {e : TypeId} {z : Value} {k bytes : Nat} (ht : P.underlying t = some (.slice e)) (hi : (P.info? e).map (fun i => (i.zero, i.size, i.bytes)) = some (some z, k, bytes)) (hzs : z.cells.size = k) (hk : 0 < k)
  {base : Nat} {f : α → List Value} {v : Value} {l : List α} (hs : a.eval s = v) (hown : Own w base e k f v l)
  (y : α) (g c : Nat) (hx : a.eval x = .slice (some ⟨g, 0, none⟩) 1 c) (hg : Blk w g (.cells (f y).toArray e (0, 0))) (hl : ∀ y, (f y).length = k) (h1 : ∀ y, ∀ u ∈ f y, u.oneCell' = true)
  (hbytes : (l.length + 1) * bytes ≤ 140737488355328) (hn : l.length + 1 ≤ maxLen) (hbase : base ≤ w.heap.size)
  (h : ∀ v' w', Own w' base e k f v' (l ++ [y]) → Below base w w' → w.grownBy w' v.ownBlock → (∀ g, v'.ownBlock = some g → v.ownBlock = some g ∨ w.heap.size ≤ g) → K (a.put o.dst v') w') :
  if Region.wanted o (yielded ops a.tmps) = true then Oper.wp P o a w K Q else E := by
 have hw : Region.wanted o (yielded ops a.tmps) = true := by simp [Region.wanted, hgd]
 rw [if_pos hw]
 exact wp_pushes s x t ho ht hi hzs hk hs hown [y] g c hx (by simpa using hg) hl h1 hbytes hn hbase h

theorem step_pushes {α : Type} {K : Act → World → Prop} {E : Prop} (hgd : o.guard = none) (s x : Operand) (t : TypeId)
  (ho : o.op = .call { callee := .builtin .append, args := #[s, x], argTypes := #[t, t] })
  {e : TypeId} {z : Value} {k bytes : Nat} (ht : P.underlying t = some (.slice e)) (hi : (P.info? e).map (fun i => (i.zero, i.size, i.bytes)) = some (some z, k, bytes)) (hzs : z.cells.size = k) (hk : 0 < k)
  {base : Nat} {f : α → List Value} {v : Value} {l : List α} (hs : a.eval s = v) (hown : Own w base e k f v l)
  (ys : List α) (g c : Nat) (hx : a.eval x = .slice (some ⟨g, 0, none⟩) ys.length c) (hg : Blk w g (.cells (ys.flatMap f).toArray e (0, 0))) (hl : ∀ y, (f y).length = k) (h1 : ∀ y, ∀ u ∈ f y, u.oneCell' = true)
  (hbytes : (l.length + ys.length) * bytes ≤ 140737488355328) (hn : l.length + ys.length ≤ maxLen) (hbase : base ≤ w.heap.size)
  (h : ∀ v' w', Own w' base e k f v' (l ++ ys) → Below base w w' → w.grownBy w' v.ownBlock → (∀ g, v'.ownBlock = some g → v.ownBlock = some g ∨ w.heap.size ≤ g) → K (a.put o.dst v') w') :
  if Region.wanted o (yielded ops a.tmps) = true then Oper.wp P o a w K Q else E := by
 have hw : Region.wanted o (yielded ops a.tmps) = true := by simp [Region.wanted, hgd]
 rw [if_pos hw]
 exact wp_pushes s x t ho ht hi hzs hk hs hown ys g c hx hg hl h1 hbytes hn hbase h

theorem wpList_copy (hgd : o.guard = none) (s x : Operand) (t : TypeId)
  (ho : o.op = .call { callee := .builtin .append, args := #[s, x], argTypes := #[t, t] })
  {e : TypeId} {z : Value} {k bytes : Nat} (ht : P.underlying t = some (.slice e)) (hi : (P.info? e).map (fun i => (i.zero, i.size, i.bytes)) = some (some z, k, bytes)) (hzs : z.cells.size = k) (hk : 0 < k)
  {base : Nat} {v0 : Value} (hs : a.eval s = v0) (hown : w.ownsRow base e k v0 0 [])
  {v : Value} {n : Nat} {c : Nat → Nat → Value} (hx : a.eval x = v) (harr : Arr w v n k c) (h1 : ∀ i j, i < n → j < k → (c i j).oneCell' = true) (hbytes : n * bytes ≤ 140737488355328) (hbase : base ≤ w.heap.size)
  (h : ∀ v' w', Arr w' v' n k c → NewAt base v' → Below base w w' → wpList P ops Q rest (a.put o.dst v') w') : wpList P ops Q (o :: rest) a w := by
 cases hinfo : P.info? e with
 | none => rw [hinfo] at hi; cases hi
 | some i =>
  rw [hinfo] at hi
  simp only [Option.map_some, Option.some.injEq, Prod.mk.injEq] at hi
  obtain ⟨hz, H0, H9⟩ := hi
  have H8 := harr
  obtain ⟨ao, Ha, rfl, hn, hm, H4, hc⟩ := harr
  have H1 : ∀ g, v0.ownBlock = some g → base ≤ g := fun g hg => (hown.lt g hg).1
  have key : ∀ v' w', w'.ownsRow base e k v' n ((List.range n).flatMap fun i => (List.range k).map (c i)) → Arr w' v' n k c := by intro v' w' h2; (have : Own w' base e k (fun i => (List.range k).map (c i)) v' (List.range n) := by unfold Own; simpa using h2); (have h4 := this.arr (by simp)); simp only [List.length_range] at h4; exact h4.congr fun i j hi hj => by simp [nth_eq _ _ (show i < (List.range n).length by simpa using hi), hj]
  cases ao with
  | some ad =>
   have H5 : ((List.range n).flatMap fun i => (List.range k).map (c i)).length = n * k := by rw [flatMap_len (k := k) (by simp)]; simp
   have Hb : ∀ i j, i < n → j < k → ((List.range n).flatMap fun i => (List.range k).map (c i))[i * k + j]? = some (c i j) := by intro i j hi hj; (rw [flatMap_at (f := fun i => (List.range k).map (c i)) (k := k) (by simp) _ i j (by simpa using hi) hj]); simp [nth_eq _ _ (show i < (List.range n).length by simpa using hi), hj]
   refine wpList_append_own w hgd s x t ho base e i z k bytes ht hinfo hz H0 H9 hzs hk v0 0 [] hs hown ad n Ha ((List.range n).flatMap fun i => (List.range k).map (c i)) hx H5 ?_ ?_ (by omega) (by simpa using hbytes) hbase ?_
   ·intro q u hu
    have hq : q < n * k := by
     by_cases hq : q < n * k
     ·exact hq
     rw [List.getElem?_eq_none (by omega)] at hu; cases hu
    have H6 : 0 < n := by
     rcases Nat.eq_zero_or_pos n with h0 | h0
     ·subst h0; simp at hq
     exact h0
    obtain ⟨b, H2, H7, H3⟩ := hc H6
    cases H7
    have hi : q / k < n := Nat.div_lt_of_lt_mul (by rw [Nat.mul_comm]; exact hq)
    have hj : q % k < k := Nat.mod_lt _ hk
    have e1 : q = q / k * k + q % k := (Nat.div_add_mod' q k).symm
    rw [e1, Hb _ _ hi hj] at hu
    cases hu
    rw [← H3 _ _ hi hj]
    unfold Addr.add
    split
    ·rename_i h0
     rw [show H2 + q / k * k + q % k = H2 by omega]
    simp only []
    rw [show H2 + q = H2 + q / k * k + q % k by omega]
   ·intro u hu
    obtain ⟨i, hi, hu⟩ := List.mem_flatMap.1 hu
    obtain ⟨j, hj, rfl⟩ := List.mem_map.1 hu
    exact h1 i j (by simpa using hi) (by simpa using hj)
   intro v' w' h2 h3 _
   exact h v' w' (key v' w' (by simpa using h2)) (fun g hg => (h2.lt g hg).1) (below_grown h3 hbase H1)
  | none =>
   have H6 : n = 0 := by
    rcases Nat.eq_zero_or_pos n with h0 | h0
    ·exact h0
    obtain ⟨b, H2, H7, _⟩ := hc h0; cases H7
   subst H6
   obtain rfl := H4 rfl
   refine wpList_append_own_none hgd s x t ho base e i k ht hinfo v0 0 [] hs hown hx ?_
   exact h _ _ (key _ _ (by simpa using hown)) H1 (Below.refl _ _)

theorem wpList_copy_nil (hgd : o.guard = none) (x : Operand) (t : TypeId)
  (ho : o.op = .call { callee := .builtin .append, args := #[.const (.slice none 0 0), x], argTypes := #[t, t] })
  {e : TypeId} {z : Value} {k bytes : Nat} (ht : P.underlying t = some (.slice e)) (hi : (P.info? e).map (fun i => (i.zero, i.size, i.bytes)) = some (some z, k, bytes)) (hzs : z.cells.size = k) (hk : 0 < k)
  {v : Value} {n : Nat} {c : Nat → Nat → Value} (hx : a.eval x = v) (harr : Arr w v n k c) (h1 : ∀ i j, i < n → j < k → (c i j).oneCell' = true) (hbytes : n * bytes ≤ 140737488355328)
  (h : ∀ v' w', Arr w' v' n k c → NewAt w.heap.size v' → Keeps w w' → wpList P ops Q rest (a.put o.dst v') w') : wpList P ops Q (o :: rest) a w :=
 wpList_copy hgd (.const (.slice none 0 0)) x t ho ht hi hzs hk (base := w.heap.size) (v0 := .slice none 0 0) rfl ⟨by simp, Or.inl ⟨rfl, rfl⟩⟩ hx harr h1 hbytes (Nat.le_refl _) h
end
end Go.Proofs.YtgdamggkaklhjaaDoor.BH
