/-
  Chains in memory: of each block its chain's number, the chains, each chain's own row; and what a join writes. No program is named here.
-/
import Derived.Test.YtjnhiiidcjajbaaGreatDoorFoot
import Derived.Test.YtjnhiiidcjajbaaGreatDoorRowSort
import Derived.Test.YtjnhiiidcjajbaaGreatDoorOrdJoinP
namespace Go.Proofs.YtjnhiiidcjajbaaGreatDoor.BH
open Go.RowKit
set_option maxRecDepth 100000
/-- Only the blocks of S have turned, and new ones have come. -/
structure Only (S : Nat → Prop) (w w' : World) : Prop where
  os : w'.os = w.os
  tape : w'.tape = w.tape
  output : w'.output = w.output
  size : w.heap.size ≤ w'.heap.size
  block : ∀ b, b < w.heap.size → ¬ S b → w'.heap[b]? = w.heap[b]?
theorem Only.refl (S : Nat → Prop) (w : World) : Only S w w := ⟨rfl, rfl, rfl, Nat.le_refl _, fun _ _ _ => rfl⟩
theorem Only.trans {S : Nat → Prop} {a b c : World} (h : Only S a b) (k : Only S b c) : Only S a c :=
  ⟨k.os.trans h.os, k.tape.trans h.tape, k.output.trans h.output, Nat.le_trans h.size k.size, fun x hx hs => (k.block x (Nat.lt_of_lt_of_le hx h.size) hs).trans (h.block x hx hs)⟩
/-- what turns later must have been in S, or be new -/
theorem Only.trans' {S T : Nat → Prop} {a b c : World} (h : Only S a b) (k : Only T b c) (ht : ∀ x, T x → S x ∨ a.heap.size ≤ x) : Only S a c :=
  ⟨k.os.trans h.os, k.tape.trans h.tape, k.output.trans h.output, Nat.le_trans h.size k.size, fun x hx hs => (k.block x (Nat.lt_of_lt_of_le hx h.size) fun q => by rcases ht x q with q | q; exact hs q; omega).trans (h.block x hx hs)⟩
theorem Only.mono {S T : Nat → Prop} {a b : World} (h : Only S a b) (hst : ∀ x, S x → T x) : Only T a b := ⟨h.os, h.tape, h.output, h.size, fun x hx hs => h.block x hx fun q => hs (hst x q)⟩
theorem Keeps.only {w w' : World} (h : Keeps w w') (S : Nat → Prop) : Only S w w' := ⟨Below.os h, Below.tape h, Below.output h, Below.size h, fun b hb _ => Below.block h b hb⟩
theorem grown_only {w w' : World} {row : Option Nat} (h : w.grownBy w' row) {S : Nat → Prop} (hs : ∀ b, row = some b → S b) : Only S w w' := ⟨h.os, h.tape, h.output, h.size, fun b hb hn => h.block b hb fun e => hn (hs b e.symm)⟩
theorem Only.below {S : Nat → Prop} {w w' : World} (h : Only S w w') {B : Nat} (hS : ∀ b, S b → B ≤ b) (hB : B ≤ w.heap.size) : Below B w w' :=
  ⟨h.os, h.tape, h.output, h.size, fun b hb => h.block b (by omega) fun q => by have := hS b q; omega⟩
theorem Only.set {S : Nat → Prop} (w : World) (b o : Nat) (u : Value) (h : S b) : Only S w (w.setCell ⟨b, o, none⟩ u) := grown_only (grown_setCell w b o u) fun x e => by cases e; exact h
theorem Own.only {α : Type} {w w' : World} {S : Nat → Prop} (ho : Only S w w') {base : Nat} {e : TypeId} {k : Nat} {f : α → List Value} {v : Value} {l : List α} (h : Own w base e k f v l) (hne : ∀ g, v.ownBlock = some g → ¬ S g) : Own w' base e k f v l := by
  obtain ⟨h1, h2⟩ := h
  refine ⟨h1, ?_⟩
  rcases h2 with h2 | ⟨g, cap, cur, hv, hb, hgg, r⟩
  · exact Or.inl h2
  · refine Or.inr ⟨g, cap, cur, hv, hb, ?_, r⟩
    rw [ho.block g (lt_of_block hgg) (hne g (by rw [hv]; rfl))]; exact hgg
theorem Blk.only {w w' : World} {S : Nat → Prop} (ho : Only S w w') {g : Nat} {o : Obj} (h : Blk w g o) (hn : ¬ S g) : Blk w' g o := (ho.block g h.lt hn).trans h
/-- a cell of an own row of single cells is written -/
theorem own_set1 {α : Type} [Inhabited α] {w : World} {base : Nat} {e : TypeId} {h : α → Value} {v : Value} {l : List α} (H : Own w base e 1 (fun x => [h x]) v l) {i : Nat} (hi : i < l.length) :
    ∃ g cap, v = .slice (some ⟨g, 0, none⟩) l.length cap ∧ base ≤ g ∧ l.length ≤ cap ∧ cap ≤ maxLen ∧ g < w.heap.size ∧ (∀ j, j < l.length → w.cell? ⟨g, j, none⟩ = some (h (nth l j))) ∧ (∀ j, w.frozen? ⟨g, j, none⟩ = false) ∧
      ∀ y, Own (w.setCell ⟨g, i, none⟩ (h y)) base e 1 (fun x => [h x]) v (l.set i y) := by
  obtain ⟨h1, h2⟩ := H
  rcases h2 with ⟨rfl, h0⟩ | ⟨g, cap, cur, rfl, hb, hg, hn, hc, hs, ht⟩
  · omega
  · have hm : ∀ l : List α, (l.flatMap fun x => [h x]) = l.map h := fun l => by
      induction l with
      | nil => rfl
      | cons x r ih => rw [List.flatMap_cons, ih]; rfl
    refine ⟨g, cap, rfl, hb, hn, hc, lt_of_block hg, fun j hj => ?_, fun j => Blk.thawed hg j, fun y => ⟨?_, Or.inr ⟨g, cap, cur.setIfInBounds i (h y), ?_, hb, Blk.set hg i (h y), ?_, hc, ?_, ?_⟩⟩⟩
    · refine Blk.cell hg ?_
      rw [hm] at ht
      have : (cur.toList.take (l.length * 1))[j]? = (l.map h)[j]? := by rw [ht]
      rw [List.getElem?_take_of_lt (by omega), List.getElem?_map, List.getElem?_eq_getElem hj] at this
      rw [← Array.getElem?_toList, this, nth_eq _ _ hj]
      rfl
    · rw [hm, List.length_map]; simp
    · rw [List.length_set]
    · rw [List.length_set]; exact hn
    · rw [Array.size_setIfInBounds]; exact hs
    · rw [hm] at ht ⊢
      rw [Array.toList_setIfInBounds, List.take_set, List.length_set, ht, List.map_set]
theorem own_read1 {α : Type} [Inhabited α] {w : World} {base : Nat} {e : TypeId} {h : α → Value} {v : Value} {l : List α} (H : Own w base e 1 (fun x => [h x]) v l) (hl : 0 < l.length) :
    ∃ g cap, v = .slice (some ⟨g, 0, none⟩) l.length cap ∧ base ≤ g ∧ l.length ≤ cap ∧ cap ≤ maxLen ∧ g < w.heap.size ∧ (∀ j, j < l.length → w.cell? ⟨g, j, none⟩ = some (h (nth l j))) ∧ (∀ j, w.frozen? ⟨g, j, none⟩ = false) := by
  obtain ⟨g, cap, h1, h2, h3, h4, h5, h6, h7, _⟩ := own_set1 H hl
  exact ⟨g, cap, h1, h2, h3, h4, h5, h6, h7⟩
/-- the blocks that chains hold -/
def ChF (vo vl : Value) (vs : List Sle) (b : Nat) : Prop := vo.ownBlock = some b ∨ vl.ownBlock = some b ∨ ∃ j, j < vs.length ∧ (nth vs j).v.ownBlock = some b
/-- Chains as place.Order lays them: block g holds the two slices, all else lies from B on. -/
structure ChSt (w : World) (B g : Nat) (T tI tC : TypeId) (vo vl : Value) (vs : List Sle) (s : Cs) : Prop where
  blk : Blk w g (.cells #[vo, vl] T)
  oo : Own w B tI 1 ci vo s.of
  ol : Own w B tC 1 sle vl vs
  len : vs.length = s.ls.length
  row : ∀ j, j < vs.length → Own w B tI 1 ci (nth vs j).v (nth s.ls j)
  gB : g < B
  ne1 : ∀ b, vo.ownBlock = some b → vl.ownBlock ≠ some b
  ne2 : ∀ j b, j < vs.length → (nth vs j).v.ownBlock = some b → vo.ownBlock ≠ some b ∧ vl.ownBlock ≠ some b
  ne3 : ∀ i j b, i < vs.length → j < vs.length → i ≠ j → (nth vs i).v.ownBlock = some b → (nth vs j).v.ownBlock ≠ some b
section
variable {w w' : World} {B g : Nat} {T tI tC : TypeId} {vo vl : Value} {vs : List Sle} {s : Cs}
theorem ChSt.foot (h : ChSt w B g T tI tC vo vl vs s) {b : Nat} (hb : ChF vo vl vs b) : B ≤ b ∧ b < w.heap.size := by
  rcases hb with q | q | ⟨j, hj, q⟩
  · exact ⟨h.oo.row b q, own_lt' h.oo q⟩
  · exact ⟨h.ol.row b q, own_lt' h.ol q⟩
  · exact ⟨(h.row j hj).row b q, own_lt' (h.row j hj) q⟩
theorem ChSt.only (h : ChSt w B g T tI tC vo vl vs s) {S : Nat → Prop} (ho : Only S w w') (hg : ¬ S g) (hS : ∀ b, ChF vo vl vs b → ¬ S b) : ChSt w' B g T tI tC vo vl vs s :=
  { h with
    blk := h.blk.only ho hg
    oo := Own.only ho h.oo fun b q => hS b (Or.inl q)
    ol := Own.only ho h.ol fun b q => hS b (Or.inr (Or.inl q))
    row := fun j hj => Own.only ho (h.row j hj) fun b q => hS b (Or.inr (Or.inr ⟨j, hj, q⟩)) }
theorem ChSt.keep (h : ChSt w B g T tI tC vo vl vs s) (hk : Keeps w w') : ChSt w' B g T tI tC vo vl vs s := h.only (hk.only fun _ => False) (fun q => q) (fun _ _ q => q)
/-- a block comes to the chain x -/
theorem ChSt.setOf (h : ChSt w B g T tI tC vo vl vs s) {m : Nat} (hm : m < s.of.length) (x : Int) : ∃ q cap, vo = .slice (some ⟨q, 0, none⟩) s.of.length cap ∧ s.of.length ≤ cap ∧ cap ≤ maxLen ∧ q < w.heap.size ∧ q ≠ g ∧ (∀ j, j < s.of.length → w.cell? ⟨q, j, none⟩ = some (.int .i64 (nth s.of j))) ∧ w.frozen? ⟨q, m, none⟩ = false ∧ ChSt (w.setCell ⟨q, m, none⟩ (.int .i64 x)) B g T tI tC vo vl vs ⟨s.of.set m x, s.ls⟩ := by
  obtain ⟨q, cap, e, hb, hc, hc2, hq, hcell, hfz, hset⟩ := own_set1 (h := fun x : Int => Value.int .i64 x) h.oo hm
  have hown : vo.ownBlock = some q := by rw [e]; rfl
  have on : Only (fun b => vo.ownBlock = some b) w (w.setCell ⟨q, m, none⟩ (.int .i64 x)) := Only.set _ _ _ _ hown
  have hg : q ≠ g := fun e2 => by have := h.gB; omega
  exact ⟨q, cap, e, hc, hc2, hq, hg, hcell, hfz m, { h with
    blk := h.blk.only on fun e2 => hg (by rw [hown] at e2; exact Option.some.inj e2)
    oo := hset x
    ol := Own.only on h.ol fun b q1 q2 => h.ne1 b q2 q1
    row := fun j hj => Own.only on (h.row j hj) fun b q1 q2 => (h.ne2 j b hj q1).1 q2 }⟩
theorem nth_set_s {α : Type} [Inhabited α] (l : List α) (i j : Nat) (x : α) (hj : j < l.length) : nth (l.set i x) j = if i = j then x else nth l j := nth_set' l i j x hj
/-- The chain y goes behind the chain x: the append, and what the list gets. -/
theorem ChSt.joined (h : ChSt w B g T tI tC vo vl vs s) {x y : Nat} (hx : x < vs.length) (hy : y < vs.length) {wa w7 : World} {v7 : Sle} {l7 : List Int} (o7 : Own w7 B tI 1 ci v7.v l7)
    (g7 : wa.grownBy w7 (nth vs x).v.ownBlock) (f7 : ∀ b, v7.v.ownBlock = some b → (nth vs x).v.ownBlock = some b ∨ wa.heap.size ≤ b) (ka : Keeps w wa) :
    ∃ q cap, vl = .slice (some ⟨q, 0, none⟩) vs.length cap ∧ q < w7.heap.size ∧ Blk w7 g (.cells #[vo, vl] T) ∧ (∀ j, j < vs.length → w7.cell? ⟨q, j, none⟩ = some (.slice (nth vs j).a (nth vs j).n (nth vs j).c)) ∧ (∀ j, w7.frozen? ⟨q, j, none⟩ = false) ∧ ChSt ((w7.setCell ⟨q, x, none⟩ (.slice v7.a v7.n v7.c)).setCell ⟨q, y, none⟩ (.slice none 0 0)) B g T tI tC vo vl ((vs.set x v7).set y ⟨none, 0, 0⟩) ⟨s.of, (s.ls.set x l7).set y []⟩ ∧
      Only (ChF vo vl vs) w ((w7.setCell ⟨q, x, none⟩ (.slice v7.a v7.n v7.c)).setCell ⟨q, y, none⟩ (.slice none 0 0)) ∧ ∀ b, ChF vo vl ((vs.set x v7).set y ⟨none, 0, 0⟩) b → ChF vo vl vs b ∨ w.heap.size ≤ b := by
  have hwa := ka.size
  have on7 : Only (fun b => (nth vs x).v.ownBlock = some b) w w7 := (ka.only _).trans (grown_only g7 fun b e => e)
  have hol : Own w7 B tC 1 sle vl vs := Own.only on7 h.ol fun b q1 q2 => (h.ne2 x b hx q2).2 q1
  obtain ⟨q, cap, e, hb, hc, hc2, hq, hcell, hfz, hset⟩ := own_set1 (h := fun z : Sle => Value.slice z.a z.n z.c) hol hx
  obtain ⟨q', cap', e', -, -, -, -, -, -, hset2⟩ := own_set1 (h := fun z : Sle => Value.slice z.a z.n z.c) (hset v7) (i := y) (by rw [List.length_set]; exact hy)
  have eq : q' = q := by rw [e] at e'; injection e' with e1 e2 e3; injection e1 with e1; injection e1 with e1; exact e1.symm
  subst eq
  have hown : vl.ownBlock = some q' := by rw [e]; rfl
  have hqw : q' < w.heap.size := own_lt' h.ol hown
  have hvq : ∀ b, v7.v.ownBlock = some b → b ≠ q' := fun b hb' e2 => by
    subst e2
    rcases f7 b hb' with p | p
    · exact (h.ne2 x b hx p).2 hown
    · omega
  have on8 : Only (fun b => vl.ownBlock = some b) w7 ((w7.setCell ⟨q', x, none⟩ (.slice v7.a v7.n v7.c)).setCell ⟨q', y, none⟩ (.slice none 0 0)) := (Only.set _ _ _ _ hown).trans (Only.set _ _ _ _ hown)
  have hg : q' ≠ g := fun e2 => by have := h.gB; omega
  have hv0 : Sle.v ⟨none, 0, 0⟩ = .slice none 0 0 := rfl
  have eR : ∀ j, j < vs.length → nth ((vs.set x v7).set y ⟨none, 0, 0⟩) j = if y = j then ⟨none, 0, 0⟩ else if x = j then v7 else nth vs j := fun j hj => by
    rw [nth_set' _ _ _ _ (by rw [List.length_set]; exact hj), nth_set' _ _ _ _ hj]
  have eL : ∀ j, j < vs.length → nth ((s.ls.set x l7).set y []) j = if y = j then [] else if x = j then l7 else nth s.ls j := fun j hj => by
    rw [nth_set' _ _ _ _ (by rw [List.length_set, ← h.len]; exact hj), nth_set' _ _ _ _ (by rw [← h.len]; exact hj)]
  -- an own block of the new rows: old, of the same row, or new
  have hob : ∀ j b, j < vs.length → (nth ((vs.set x v7).set y ⟨none, 0, 0⟩) j).v.ownBlock = some b → (nth vs j).v.ownBlock = some b ∨ (x = j ∧ w.heap.size ≤ b) := fun j b hj hb' => by
    rw [eR j hj] at hb'
    split at hb'
    · cases hb'
    · split at hb'
      · rename_i e3
        subst e3
        rcases f7 b hb' with p | p
        · exact Or.inl p
        · exact Or.inr ⟨rfl, by omega⟩
      · exact Or.inl hb'
  have hb7 : Blk w7 g (.cells #[vo, vl] T) := h.blk.only on7 fun p => by have := (h.row x hx).row g p; have := h.gB; omega
  refine ⟨q', cap, e, hq, hb7, hcell, hfz, ⟨?_, ?_, hset2 _, by simpa using h.len, ?_, h.gB, h.ne1, ?_, ?_⟩, ?_, ?_⟩
  · exact hb7.only on8 fun p => hg (by rw [hown] at p; exact Option.some.inj p)
  · exact Own.only on8 (Own.only on7 h.oo fun b p1 p2 => (h.ne2 x b hx p2).1 p1) fun b p1 p2 => h.ne1 b p1 p2
  · intro j hj
    have hj' : j < vs.length := by simpa using hj
    show Own _ B tI 1 ci (nth ((vs.set x v7).set y ⟨none, 0, 0⟩) j).v (nth ((s.ls.set x l7).set y []) j)
    rw [eR j hj', eL j hj']
    split
    · exact Own.nil _ _ _ _ _
    · split
      · exact Own.only on8 o7 fun b p1 p2 => hvq b p1 (by rw [hown] at p2; exact (Option.some.inj p2).symm)
      · rename_i n1 n2
        exact Own.only on8 (Own.only on7 (h.row j hj') fun b p1 p2 => h.ne3 j x b hj' hx (fun e3 => n2 e3.symm) p1 p2) fun b p1 p2 => (h.ne2 j b hj' p1).2 p2
  · intro j b hj hb'
    have hj' : j < vs.length := by simpa using hj
    rcases hob j b hj' hb' with p | ⟨-, p⟩
    · exact h.ne2 j b hj' p
    · exact ⟨fun p2 => by have := own_lt' h.oo p2; omega, fun p2 => by have := own_lt' h.ol p2; omega⟩
  · intro i j b hi hj hij hb' hb2
    have hi' : i < vs.length := by simpa using hi
    have hj' : j < vs.length := by simpa using hj
    rcases hob i b hi' hb' with p | ⟨p0, p⟩
    · rcases hob j b hj' hb2 with p2 | ⟨q0, p2⟩
      · exact h.ne3 i j b hi' hj' hij p p2
      · have := own_lt' (h.row i hi') p; omega
    · rcases hob j b hj' hb2 with p2 | ⟨q0, p2⟩
      · have := own_lt' (h.row j hj') p2; omega
      · omega
  · refine (on7.mono fun b p => Or.inr (Or.inr ⟨x, hx, p⟩)).trans' on8 fun b p => Or.inl (Or.inr (Or.inl p))
  · intro b hb'
    rcases hb' with p | p | ⟨j, hj, p⟩
    · exact Or.inl (Or.inl p)
    · exact Or.inl (Or.inr (Or.inl p))
    · have hj' : j < vs.length := by simpa using hj
      rcases hob j b hj' p with p2 | ⟨-, p2⟩
      · exact Or.inl (Or.inr (Or.inr ⟨j, hj', p2⟩))
      · exact Or.inr p2
end
end Go.Proofs.YtjnhiiidcjajbaaGreatDoor.BH
