/-
  What the document's OrderOf keeps in memory: rows of blocks and slices of them. No walk yet.
-/
import Derived.Test.YtofaghcnkppmbaaOrdLaw
import Derived.Test.YtofaghcnkppmbaaOrdClone
namespace Go.Proofs.Ytofaghcnkppmbaa
open Go.RowKit BH Go.Sort
set_option maxHeartbeats 10000000
set_option maxRecDepth 100000
/-- a slice of slices as it grows: the call's own, and rows that lie elsewhere -/
structure RowSt (w : World) (B : Nat) (tC : TypeId) (v : Value) (vs : List Sle) (ls : List (List Int)) : Prop where
  own : Own w B tC 1 sle v vs
  len : vs.length = ls.length
  row : ∀ j, j < vs.length → Ints w (nth vs j).v (nth ls j)
  new : ∀ j b, j < vs.length → (nth vs j).v.ownBlock = some b → B ≤ b ∧ b < w.heap.size ∧ v.ownBlock ≠ some b
section
variable {w w' : World} {B : Nat} {tC tI : TypeId} {v : Value} {vs : List Sle} {ls : List (List Int)}
theorem RowSt.nil (w : World) (B : Nat) (tC : TypeId) : RowSt w B tC (.slice none 0 0) [] [] := ⟨Own.nil _ _ _ _ _, rfl, (by intro j h; cases h), (by intro j b h; cases h)⟩
theorem RowSt.keep (h : RowSt w B tC v vs ls) (hk : Keeps w w') : RowSt w' B tC v vs ls :=
  ⟨h.own.keep hk, h.len, fun j hj => Arr.keep (h.row j hj) hk, fun j b hj q => ⟨(h.new j b hj q).1, Nat.lt_of_lt_of_le (h.new j b hj q).2.1 hk.size, (h.new j b hj q).2.2⟩⟩
theorem RowSt.tabs (h : RowSt w B tC v vs ls) : Tabs w v ls := tabs_of h.own ⟨h.len, fun j hj => h.row j (by rw [h.len]; exact hj)⟩
theorem RowSt.foot (h : RowSt w B tC v vs ls) : Foot (fun b => B ≤ b ∧ b < w.heap.size) (fun w => Tabs w v ls) w := by
  refine ⟨fun b hb => hb.2, fun w1 hw => ?_⟩
  refine tabs_of (h.own.foot.2 w1 fun b hb => hw b ⟨h.own.row b hb, own_lt' h.own hb⟩) ⟨h.len, fun j hj => ?_⟩
  have hj' : j < vs.length := by rw [h.len]; exact hj
  exact (Arr.foot (h.row j hj') (by decide)).2 w1 fun b hb => hw b ⟨(h.new j b hj' hb.2).1, (h.new j b hj' hb.2).2.1⟩
theorem RowSt.push {wc wa w7 : World} {v7 : Value} {p : Sle} {l : List Int} (h : RowSt w B tC v vs ls) (hB : B ≤ w.heap.size) (hk : Keeps w wc) (hc : Ints wc p.v l) (hn : ∀ b, p.v.ownBlock = some b → w.heap.size ≤ b ∧ b < wc.heap.size)
    (o7 : Own w7 B tC 1 sle v7 (vs ++ [p])) (g7 : wa.grownBy w7 v.ownBlock) (f7 : ∀ b, v7.ownBlock = some b → v.ownBlock = some b ∨ wa.heap.size ≤ b) (ka : Keeps wc wa) : RowSt w7 B tC v7 (vs ++ [p]) (ls ++ [l]) := by
  have k1 : Keeps w wa := hk.trans ka
  have hs := ka.size
  have hs2 := hk.size
  have hvl : ∀ b, v.ownBlock = some b → b < w.heap.size := fun b q => own_lt' h.own q
  have hnn : (vs ++ [p]).length = vs.length + 1 := by simp
  refine ⟨o7, by simp [h.len], ?_, ?_⟩
  · intro j hj
    rcases Nat.lt_or_ge j vs.length with q | q
    · rw [nth_app_lt _ _ q, nth_app_lt _ _ (by rw [← h.len]; exact q)]
      exact Arr.grown (Arr.keep (h.row j q) k1) g7 fun _ b q1 _ e => (h.new j b q q1).2.2 e.symm
    · obtain rfl : j = vs.length := by omega
      rw [nth_app_eq _ _ rfl, nth_app_eq _ _ h.len]
      exact Arr.grown (Arr.keep hc ka) g7 fun _ b q1 _ e => by
        have h1 := hn b q1
        have h2 := hvl b e.symm
        omega
  · intro j b hj hb
    have g7s := g7.size
    rcases Nat.lt_or_ge j vs.length with q | q
    · rw [nth_app_lt _ _ q] at hb
      have h1 := h.new j b q hb
      refine ⟨h1.1, by omega, fun e => ?_⟩
      rcases f7 b e with p1 | p1
      · exact h1.2.2 p1
      · omega
    · obtain rfl : j = vs.length := by omega
      rw [nth_app_eq _ _ rfl] at hb
      have h1 := hn b hb
      refine ⟨by omega, by omega, fun e => ?_⟩
      rcases f7 b e with p1 | p1
      · have := hvl b p1; omega
      · omega
end
/-- a slice of bools of the call's own -/
def cbo (x : Bool) : List Value := [.bool x]
theorem own_falses {w : World} {B n : Nat} {v : Value} (h : w.ownsRow B 4 1 v n (madeCells (Value.bool false).cells (n * 1)).toList) : Own w B 4 1 cbo v (List.replicate n false) := by
  unfold Own
  rw [List.length_replicate]
  have e : (madeCells (Value.bool false).cells (n * 1)).toList = (List.replicate n false).flatMap cbo := by
    apply List.ext_getElem
    · rw [flatMap_len (k := 1) (f := cbo) (fun _ => rfl), List.length_replicate, Array.length_toList, size_madeCells]
    · intro i h1 h2
      have e2 : (List.replicate n false).flatMap cbo = List.replicate n (Value.bool false) := by
        rw [List.flatMap_replicate]
        show (List.replicate n [Value.bool false]).flatten = _
        exact List.flatten_replicate_singleton
      simp only [e2, List.getElem_replicate, Array.getElem_toList]
      unfold madeCells
      simp [Value.cells, Nat.mod_one]
  rw [← e]
  exact h
theorem info_bool : (Try.prog.info? 4).map (fun i => (i.zero, i.size, i.bytes)) = some (some (.bool false), 1, 1) := by kernel_rfl
/-- the places behind j have been shifted -/
def shf {α : Type} [Inhabited α] (ms : List α) (z : α) (j : Nat) : List α := ms.take j ++ (if j < ms.length then nth ms j else z) :: ms.drop j
theorem shf_len {α : Type} [Inhabited α] (ms : List α) (z : α) (j : Nat) (h : j ≤ ms.length) : (shf ms z j).length = ms.length + 1 := by
  unfold shf
  rw [List.length_append, List.length_cons, List.length_take, List.length_drop]
  omega
theorem shf_top {α : Type} [Inhabited α] (ms : List α) (z : α) : shf ms z ms.length = ms ++ [z] := by unfold shf; simp
theorem shf_step {α : Type} [Inhabited α] (ms : List α) (z : α) {j : Nat} (h0 : 0 < j) (h : j ≤ ms.length) : nth (shf ms z j) (j - 1) = nth ms (j - 1) ∧ (shf ms z j).set j (nth ms (j - 1)) = shf ms z (j - 1) := by
  obtain ⟨k, rfl⟩ : ∃ k, j = k + 1 := ⟨j - 1, by omega⟩
  rw [Nat.add_sub_cancel]
  have hk : k < ms.length := by omega
  have ht : (ms.take (k + 1)).length = k + 1 := by rw [List.length_take]; omega
  constructor
  · unfold shf
    rw [nth_eq _ _ (by rw [List.length_append, ht]; omega), List.getElem_append_left (by rw [ht]; omega), List.getElem_take, ← nth_eq]
  · unfold shf
    rw [List.set_append_right _ _ (by rw [ht]; omega), ht, Nat.sub_self, List.set_cons_zero, if_pos hk, take_succ_nth _ _ hk, List.append_assoc, drop_nth ms k hk]
    rfl
theorem shf_put {α : Type} [Inhabited α] (ms : List α) (z x : α) {a : Nat} (h : a ≤ ms.length) : (shf ms z a).set a x = putAt ms x a := by
  unfold shf putAt
  have ht : (ms.take a).length = a := by rw [List.length_take]; omega
  rw [List.set_append_right _ _ (by rw [ht]; omega), ht, Nat.sub_self, List.set_cons_zero]
/-- an insertion, read through a map -/
theorem insD_map {α β : Type} [Inhabited α] [Inhabited β] (R : α → β) (bt : β → β → Bool) (p : β → Bool) (L : List α) : ∀ k, k ≤ L.length → (insD (fun x y => bt (R x) (R y)) (fun x => p (R x)) L k).map R = insD bt p (L.map R) k
  | 0, _ => rfl
  | k + 1, hk => by
    have ih := insD_map R bt p L k (by omega)
    have hn : nth (L.map R) k = R (nth L k) := by rw [nth_eq _ _ (by rw [List.length_map]; omega), List.getElem_map, ← nth_eq]
    unfold insD
    rw [hn]
    by_cases h : p (R (nth L k)) = true
    · rw [if_pos h, if_pos h, ← ih]
      have ha : ∀ (M : List α) (j : Nat), j ≤ M.length → atR (fun y => bt (R (nth L k)) (R y)) M j = atR (bt (R (nth L k))) (M.map R) j := fun M j => by
        induction j with
        | zero => intro _; rfl
        | succ j ih2 =>
          intro hj
          have hm : nth (M.map R) j = R (nth M j) := by rw [nth_eq _ _ (by rw [List.length_map]; omega), List.getElem_map, ← nth_eq]
          unfold atR
          rw [hm, ih2 (by omega)]
      rw [List.length_map, ha _ _ (Nat.le_refl _)]
      unfold putAt
      rw [List.map_append, List.map_cons, List.map_take, List.map_drop]
    · rw [if_neg h, if_neg h]; exact ih
end Go.Proofs.Ytofaghcnkppmbaa
