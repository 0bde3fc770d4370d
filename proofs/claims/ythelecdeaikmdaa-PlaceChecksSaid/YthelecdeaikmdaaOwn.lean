/-
  A slice that the call itself has made, its elements those of a list; what an append does to it. No program is named here.
-/
import Derived.Test.YthelecdeaikmdaaCore
import Derived.Laws.AppendOwn
import Derived.Laws.AppendOwnNone
namespace Go.Proofs.Ythelecdeaikmdaa.BH
open Go.RowKit

theorem flatMap_at {α β : Type} [Inhabited α] {f : α → List β} {k : Nat} (hf : ∀ x, (f x).length = k) : ∀ (l : List α) (i j : Nat), i < l.length → j < k → (l.flatMap f)[i * k + j]? = (f (nth l i))[j]?
  | [], i, _, hi, _ => absurd hi (Nat.not_lt_zero _)
  | x :: l, 0, j, _, hj => by
    simp only [List.flatMap_cons, Nat.zero_mul, Nat.zero_add]
    rw [List.getElem?_append_left (by rw [hf]; exact hj)]
    rfl
  | x :: l, i + 1, j, hi, hj => by
    have := flatMap_at hf l i j (by simpa using hi) hj
    simp only [List.flatMap_cons]
    rw [List.getElem?_append_right (by rw [hf, Nat.add_mul]; omega), hf, show (i + 1) * k + j - k = i * k + j by rw [Nat.add_mul]; omega, this]
    rfl
theorem flatMap_len {α β : Type} {f : α → List β} {k : Nat} (hf : ∀ x, (f x).length = k) (l : List α) : (l.flatMap f).length = l.length * k := by
  induction l with
  | nil => simp
  | cons x l ih => simp only [List.flatMap_cons, List.length_append, hf, ih, List.length_cons, Nat.add_mul, Nat.one_mul]; omega

/-- The slice v is the call's own (its block is from 'base' on) and its elements are those of l, each laid as f says. -/
def Own {α : Type} (w : World) (base : Nat) (e : TypeId) (k : Nat) (f : α → List Value) (v : Value) (l : List α) : Prop := w.ownsRow base e k v l.length (l.flatMap f)

theorem Own.nil {α : Type} (w : World) (base : Nat) (e : TypeId) (k : Nat) (f : α → List Value) : Own w base e k f (.slice none 0 0) [] := ⟨by simp, Or.inl ⟨rfl, rfl⟩⟩
theorem lt_of_block {w : World} {g : Nat} {o : Obj} (h : w.heap[g]? = some o) : g < w.heap.size := by
  by_cases hb : g < w.heap.size
  · exact hb
  · simp [Array.getElem?_eq_none (Nat.le_of_not_lt hb)] at h
theorem Keeps.block {w w' : World} (h : Keeps w w') {g : Nat} {o : Obj} (hg : w.heap[g]? = some o) : w'.heap[g]? = some o := (Below.block h g (lt_of_block hg)).trans hg
theorem Own.keep {α : Type} {w w' : World} {base : Nat} {e : TypeId} {k : Nat} {f : α → List Value} {v : Value} {l : List α} (h : Own w base e k f v l) (hk : Keeps w w') : Own w' base e k f v l := by
  obtain ⟨h1, h2⟩ := h
  refine ⟨h1, ?_⟩
  rcases h2 with h2 | ⟨g, cap, cur, hv, hb, hg, r⟩
  · exact Or.inl h2
  · exact Or.inr ⟨g, cap, cur, hv, hb, hk.block hg, r⟩
theorem Own.mono {α : Type} {w : World} {base base' : Nat} {e : TypeId} {k : Nat} {f : α → List Value} {v : Value} {l : List α} (h : Own w base e k f v l) (hb : base' ≤ base) : Own w base' e k f v l := by
  obtain ⟨h1, h2⟩ := h
  refine ⟨h1, ?_⟩
  rcases h2 with h2 | ⟨g, cap, cur, hv, hbb, r⟩
  · exact Or.inl h2
  · exact Or.inr ⟨g, cap, cur, hv, Nat.le_trans hb hbb, r⟩
theorem Own.arr {α : Type} [Inhabited α] {w : World} {base : Nat} {e : TypeId} {k : Nat} {f : α → List Value} {v : Value} {l : List α} (h : Own w base e k f v l) (hf : ∀ x, (f x).length = k) :
    Arr w v l.length k (fun i j => (f (nth l i)).getD j undef) := by
  obtain ⟨h1, h2⟩ := h
  rcases h2 with ⟨rfl, h0⟩ | ⟨g, cap, cur, rfl, hb, hg, hn, hm, hsz, hx⟩
  · exact ⟨none, 0, by rw [h0], by omega, by unfold maxLen; omega, fun _ => rfl, fun h => absurd h (by omega)⟩
  · refine ⟨some ⟨g, 0, none⟩, cap, rfl, hn, hm, (fun h => by cases h), fun _ => ⟨g, 0, rfl, fun i j hi hj => ?_⟩⟩
    have hlt : i * k + j < l.length * k := by
      have : (i + 1) * k ≤ l.length * k := Nat.mul_le_mul_right _ hi
      rw [Nat.add_mul] at this; omega
    have h3 : (cur.toList.take (l.length * k))[i * k + j]? = cur.toList[i * k + j]? := List.getElem?_take_of_lt hlt
    rw [hx, flatMap_at hf l i j hi hj] at h3
    simp only [World.cell?, hg, Option.isSome_none, Bool.false_eq_true, if_false, Nat.zero_add]
    rw [← Array.getElem?_toList, ← h3, List.getElem?_eq_getElem (by rw [hf]; exact hj), List.getD_eq_getElem?_getD, List.getElem?_eq_getElem (by rw [hf]; exact hj)]
    rfl

/-- Behind an append: all but the one row that was written is as it was. -/
theorem below_grown {w w' : World} {row : Option Nat} (hg : w.grownBy w' row) {B : Nat} (hB : B ≤ w.heap.size) (hr : ∀ k, row = some k → B ≤ k) : Below B w w' := (Below.refl B w).grown hg hB hr
theorem Own.row {α : Type} {w : World} {base : Nat} {e : TypeId} {k : Nat} {f : α → List Value} {v : Value} {l : List α} (h : Own w base e k f v l) : ∀ g, v.ownBlock = some g → base ≤ g := by
  intro g hg
  rcases h.2 with ⟨rfl, _⟩ | ⟨g', cap, cur, rfl, hb, _⟩
  · cases hg
  · cases hg; exact hb

section
variable {P : Program} {w : World} {ops : Array Oper} {rest : List Oper} {o : Oper} {a : Act} {Q : Exit → Act → World → Prop}
/-- 'l = append(l, x)': x lies in the block g, which was made for it. -/
theorem wpList_push {α : Type} (hgd : o.guard = none) (s x : Operand) (t : TypeId)
    (ho : o.op = .call { callee := .builtin .append, args := #[s, x], argTypes := #[t, t] })
    {e : TypeId} {z : Value} {k bytes : Nat} (ht : P.underlying t = some (.slice e)) (hi : (P.info? e).map (fun i => (i.zero, i.size, i.bytes)) = some (some z, k, bytes)) (hzs : z.cells.size = k) (hk : 0 < k)
    {base : Nat} {f : α → List Value} {v : Value} {l : List α} (hs : a.eval s = v) (hown : Own w base e k f v l)
    (y : α) (g c : Nat) (hx : a.eval x = .slice (some ⟨g, 0, none⟩) 1 c) (hg : w.heap[g]? = some (.cells (f y).toArray e (0, 0))) (hl : (f y).length = k) (h1 : ∀ u ∈ f y, u.oneCell' = true)
    (hbytes : (l.length + 1) * bytes ≤ 140737488355328) (hn : l.length + 1 ≤ maxLen) (hbase : base ≤ w.heap.size)
    (h : ∀ v' w', Own w' base e k f v' (l ++ [y]) → Below base w w' → w.grownBy w' v.ownBlock → wpList P ops Q rest (a.put o.dst v') w') : wpList P ops Q (o :: rest) a w := by
  cases hinfo : P.info? e with
  | none => rw [hinfo] at hi; cases hi
  | some i =>
    rw [hinfo] at hi
    simp only [Option.map_some, Option.some.injEq, Prod.mk.injEq] at hi
    obtain ⟨hz, hsize, hby⟩ := hi
    refine wpList_append_own w hgd s x t ho base e i z k bytes ht hinfo hz hsize hby hzs hk v l.length (l.flatMap f) hs hown ⟨g, 0, none⟩ 1 c (f y) hx (by simpa using hl) ?_ h1 hn hbytes hbase ?_
    · intro j u hu
      have hj : j < (f y).length := by
        by_cases hj : j < (f y).length
        · exact hj
        · simp [List.getElem?_eq_none (Nat.le_of_not_lt hj)] at hu
      unfold Addr.add
      split <;> simp_all [World.cell?]
    · intro v' w' h2 h3 _
      exact h v' w' (by unfold Own; simpa using h2) (below_grown h3 hbase hown.row) h3

/-- 'append([]T(nil), l...)' -/
theorem wpList_copy_nil (hgd : o.guard = none) (x : Operand) (t : TypeId)
    (ho : o.op = .call { callee := .builtin .append, args := #[.const (.slice none 0 0), x], argTypes := #[t, t] })
    {e : TypeId} {z : Value} {k bytes : Nat} (ht : P.underlying t = some (.slice e)) (hi : (P.info? e).map (fun i => (i.zero, i.size, i.bytes)) = some (some z, k, bytes)) (hzs : z.cells.size = k) (hk : 0 < k)
    {v : Value} {n : Nat} {c : Nat → Nat → Value} (hx : a.eval x = v) (harr : Arr w v n k c) (h1 : ∀ i j, i < n → j < k → (c i j).oneCell' = true) (hbytes : n * bytes ≤ 140737488355328)
    (h : ∀ v' w', Arr w' v' n k c → Keeps w w' → wpList P ops Q rest (a.put o.dst v') w') : wpList P ops Q (o :: rest) a w := by
  cases hinfo : P.info? e with
  | none => rw [hinfo] at hi; cases hi
  | some i =>
    rw [hinfo] at hi
    simp only [Option.map_some, Option.some.injEq, Prod.mk.injEq] at hi
    obtain ⟨hz, hsize, hby⟩ := hi
    have harr' := harr
    obtain ⟨ao, cap, rfl, hn, hm, hcap, hc⟩ := harr
    have hnil : ∀ W : World, W.ownsRow w.heap.size e k (.slice none 0 0) 0 [] := fun W => ⟨by simp, Or.inl ⟨rfl, rfl⟩⟩
    cases ao with
    | some ad =>
      have hlen : ((List.range n).flatMap fun i => (List.range k).map (c i)).length = n * k := by
        rw [flatMap_len (k := k) (by simp)]; simp
      have hat : ∀ i j, i < n → j < k → ((List.range n).flatMap fun i => (List.range k).map (c i))[i * k + j]? = some (c i j) := by
        intro i j hi hj
        rw [flatMap_at (f := fun i => (List.range k).map (c i)) (k := k) (by simp) _ i j (by simpa using hi) hj]
        simp [nth_eq _ _ (show i < (List.range n).length by simpa using hi), hj]
      refine wpList_append_own w hgd (.const (.slice none 0 0)) x t ho w.heap.size e i z k bytes ht hinfo hz hsize hby hzs hk (.slice none 0 0) 0 [] rfl (hnil w) ad n cap ((List.range n).flatMap fun i => (List.range k).map (c i)) hx hlen ?_ ?_ (by omega) (by simpa using hbytes) (Nat.le_refl _) ?_
      · intro q u hu
        have hq : q < n * k := by
          by_cases hq : q < n * k
          · exact hq
          · rw [List.getElem?_eq_none (by omega)] at hu; cases hu
        have hn0 : 0 < n := by
          rcases Nat.eq_zero_or_pos n with h0 | h0
          · subst h0; simp at hq
          · exact h0
        obtain ⟨b, off, hab, hcell⟩ := hc hn0
        cases hab
        have hi : q / k < n := Nat.div_lt_of_lt_mul (by rw [Nat.mul_comm]; exact hq)
        have hj : q % k < k := Nat.mod_lt _ hk
        have e1 : q = q / k * k + q % k := (Nat.div_add_mod' q k).symm
        rw [e1, hat _ _ hi hj] at hu
        cases hu
        rw [← hcell _ _ hi hj]
        unfold Addr.add
        split
        · rename_i h0
          rw [show off + q / k * k + q % k = off by omega]
        · simp only []
          rw [show off + q = off + q / k * k + q % k by omega]
      · intro u hu
        obtain ⟨i, hi, hu⟩ := List.mem_flatMap.1 hu
        obtain ⟨j, hj, rfl⟩ := List.mem_map.1 hu
        exact h1 i j (by simpa using hi) (by simpa using hj)
      · intro v' w' h2 h3 _
        refine h v' w' ?_ ((Keeps.refl w).trans (below_grown h3 (Nat.le_refl _) (fun k hk => by cases hk)))
        have : Own w' w.heap.size e k (fun i => (List.range k).map (c i)) v' (List.range n) := by unfold Own; simpa using h2
        have h4 := this.arr (by simp)
        simp only [List.length_range] at h4
        exact h4.congr fun i j hi hj => by simp [nth_eq _ _ (show i < (List.range n).length by simpa using hi), hj]
    | none =>
      have hn0 : n = 0 := by
        rcases Nat.eq_zero_or_pos n with h0 | h0
        · exact h0
        · obtain ⟨b, off, hab, _⟩ := hc h0; cases hab
      subst hn0
      obtain rfl := hcap rfl
      refine wpList_append_own_none hgd (.const (.slice none 0 0)) x t ho w.heap.size e i k ht hinfo (.slice none 0 0) 0 [] rfl (hnil w) hx ?_
      exact h _ _ harr' (Keeps.refl w)
end
end Go.Proofs.Ythelecdeaikmdaa.BH
