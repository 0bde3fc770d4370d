/-
  What an append does to a slice that is full: a new row of the call's own. No program is named here.
-/
import Derived.Test.YtpgifkhgefbnfaaOnto
namespace Go.Proofs.Ytpgifkhgefbnfaa.BH
open Go.RowKit

section
variable {P : Program} {w : World} {ops : Array Oper} {rest : List Oper} {o : Oper} {a : Act} {Q : Exit → Act → World → Prop}
theorem run_over (base : Nat) (t tx ty e : TypeId) (i : TypeInfo) (z : Value) (ht : P.underlying t = some (.slice e)) (hi : P.info? e = some i) (hz : i.zero = some z) (hzs : z.cells.size = i.size)
    (g n cap : Nat) (xs : List Value) (hx : xs.length = n * i.size) (hcells : ∀ j u, xs[j]? = some u → w.cell? ((⟨g, 0, none⟩ : Addr).add j) = some u) (x : Value) (m : Nat) (news : List Value) (hs : Src P i.size tx x m news w)
    (hcap : cap < n + m) (hn : n + m ≤ maxLen) (hcn : cap ≤ n) (hbytes : (n + m) * i.bytes ≤ 140737488355328) (hbase : base ≤ w.heap.size) :
    ∃ v' w', (Builtin.append_ #[t, tx] ty #[.slice (some ⟨g, 0, none⟩) n cap, x]).run P w = .ok v' w' ∧ w'.ownsRow base e i.size v' (n + m) (xs ++ news) ∧ Keeps w w' ∧ (∀ g, v'.ownBlock = some g → w.heap.size ≤ g) := by
  have h63 : ((n + m : Nat) : Int) ≤ 9223372036854775807 := by simp only [maxLen] at hn; omega
  have hlen : (xs ++ news).length = (n + m) * i.size := by rw [List.length_append, hx, hs.newsLen, Nat.add_mul]
  have hold : (Builtin.firstCells i.size n (.slice (some ⟨g, 0, none⟩) n cap)).run P w.drew = .ok xs.toArray w.drew :=
    run_firstCells_some w.drew i.size n ⟨g, 0, none⟩ n cap xs hx (by simpa using hcells)
  have hr := run_append_grow_src (P := P) w t tx ty e i z ht hi hz (some ⟨g, 0, none⟩) n cap xs hold x m news hs hcap h63 (growslice_fits (by omega) hbytes)
  exact ⟨_, _, hr, owns_new (w := w) hzs hlen hbase hn, ((Keeps.refl w).drew.alloc _), fun g' hg' => by cases hg'; exact Nat.le_refl _⟩
theorem wp_over {α : Type} {K : Act → World → Prop} (s x : Operand) (t tx : TypeId)
    (ho : o.op = .call { callee := .builtin .append, args := #[s, x], argTypes := #[t, tx] })
    {e : TypeId} {z : Value} {k bytes : Nat} (ht : P.underlying t = some (.slice e)) (hi : (P.info? e).map (fun i => (i.zero, i.size, i.bytes)) = some (some z, k, bytes)) (hzs : z.cells.size = k)
    {base : Nat} {f : α → List Value} {l : List α} {g cap : Nat} (hs : a.eval s = .slice (some ⟨g, 0, none⟩) l.length cap) (hl : ∀ y, (f y).length = k) (hcells : ∀ j u, (l.flatMap f)[j]? = some u → w.cell? ((⟨g, 0, none⟩ : Addr).add j) = some u)
    {ys : List α} {vx : Value} (hx : a.eval x = vx) (hsrc : Src P k tx vx ys.length (ys.flatMap f) w)
    (hcap : cap < l.length + ys.length) (hcn : cap ≤ l.length) (hbytes : (l.length + ys.length) * bytes ≤ 140737488355328) (hn : l.length + ys.length ≤ maxLen) (hbase : base ≤ w.heap.size)
    (h : ∀ v' w', Own w' base e k f v' (l ++ ys) → Keeps w w' → (∀ g, v'.ownBlock = some g → w.heap.size ≤ g) → K (a.put o.dst v') w') : o.wp P a w K Q := by
  cases hinfo : P.info? e with
  | none => rw [hinfo] at hi; cases hi
  | some i =>
    rw [hinfo] at hi
    simp only [Option.map_some, Option.some.injEq, Prod.mk.injEq] at hi
    obtain ⟨hz, rfl, rfl⟩ := hi
    obtain ⟨v', w', hr, h2, h3, h4⟩ := run_over (P := P) (w := w) base t tx o.type e i z ht hinfo hz hzs g l.length cap (l.flatMap f) (flatMap_len hl l) hcells vx ys.length (ys.flatMap f) hsrc hcap hn hcn hbytes hbase
    unfold Oper.wp execOp
    simp only [ho, resolve, invoke, builtin, Sem.run_bind, Sem.run_pure, Result.andThen_ok, List.map_toArray, List.map_cons, List.map_nil, hs, hx, hr]
    exact h v' w' (by unfold Own; simpa using h2) h3 h4
theorem wpList_over {α : Type} (hgd : o.guard = none) (s x : Operand) (t tx : TypeId)
    (ho : o.op = .call { callee := .builtin .append, args := #[s, x], argTypes := #[t, tx] })
    {e : TypeId} {z : Value} {k bytes : Nat} (ht : P.underlying t = some (.slice e)) (hi : (P.info? e).map (fun i => (i.zero, i.size, i.bytes)) = some (some z, k, bytes)) (hzs : z.cells.size = k)
    {base : Nat} {f : α → List Value} {l : List α} {g cap : Nat} (hs : a.eval s = .slice (some ⟨g, 0, none⟩) l.length cap) (hl : ∀ y, (f y).length = k) (hcells : ∀ j u, (l.flatMap f)[j]? = some u → w.cell? ((⟨g, 0, none⟩ : Addr).add j) = some u)
    {ys : List α} {vx : Value} (hx : a.eval x = vx) (hsrc : Src P k tx vx ys.length (ys.flatMap f) w)
    (hcap : cap < l.length + ys.length) (hcn : cap ≤ l.length) (hbytes : (l.length + ys.length) * bytes ≤ 140737488355328) (hn : l.length + ys.length ≤ maxLen) (hbase : base ≤ w.heap.size)
    (h : ∀ v' w', Own w' base e k f v' (l ++ ys) → Keeps w w' → (∀ g, v'.ownBlock = some g → w.heap.size ≤ g) → wpList P ops Q rest (a.put o.dst v') w') : wpList P ops Q (o :: rest) a w :=
  wpList_plain hgd fun _ hK => wp_over s x t tx ho ht hi hzs hs hl hcells hx hsrc hcap hcn hbytes hn hbase fun v' w' h2 h3 h4 => hK _ _ (h v' w' h2 h3 h4)
theorem step_over {α : Type} {K : Act → World → Prop} {E : Prop} (hgd : o.guard = none) (s x : Operand) (t tx : TypeId)
    (ho : o.op = .call { callee := .builtin .append, args := #[s, x], argTypes := #[t, tx] })
    {e : TypeId} {z : Value} {k bytes : Nat} (ht : P.underlying t = some (.slice e)) (hi : (P.info? e).map (fun i => (i.zero, i.size, i.bytes)) = some (some z, k, bytes)) (hzs : z.cells.size = k)
    {base : Nat} {f : α → List Value} {l : List α} {g cap : Nat} (hs : a.eval s = .slice (some ⟨g, 0, none⟩) l.length cap) (hl : ∀ y, (f y).length = k) (hcells : ∀ j u, (l.flatMap f)[j]? = some u → w.cell? ((⟨g, 0, none⟩ : Addr).add j) = some u)
    {ys : List α} {vx : Value} (hx : a.eval x = vx) (hsrc : Src P k tx vx ys.length (ys.flatMap f) w)
    (hcap : cap < l.length + ys.length) (hcn : cap ≤ l.length) (hbytes : (l.length + ys.length) * bytes ≤ 140737488355328) (hn : l.length + ys.length ≤ maxLen) (hbase : base ≤ w.heap.size)
    (h : ∀ v' w', Own w' base e k f v' (l ++ ys) → Keeps w w' → (∀ g, v'.ownBlock = some g → w.heap.size ≤ g) → K (a.put o.dst v') w') :
    if Region.wanted o (yielded ops a.tmps) = true then Oper.wp P o a w K Q else E := by
  have hw : Region.wanted o (yielded ops a.tmps) = true := by simp [Region.wanted, hgd]
  rw [if_pos hw]
  exact wp_over s x t tx ho ht hi hzs hs hl hcells hx hsrc hcap hcn hbytes hn hbase h
end
/-- cells of a row, as an append asks them -/
theorem row_cells_at {w : World} {g : Nat} {c : Array Value} {e : TypeId} {fz : Nat × Nat} (h : Blk w g (.cells c e fz)) {xs : List Value} (hx : ∀ (j : Nat) (u : Value), xs[j]? = some u → c[j]? = some u) : ∀ (j : Nat) (u : Value), xs[j]? = some u → w.cell? ((⟨g, 0, none⟩ : Addr).add j) = some u := by
  intro j u hu
  have hc := h.cell (hx j u hu)
  unfold Addr.add
  split
  · rename_i h0; subst h0; exact hc
  · simpa using hc
end Go.Proofs.Ytpgifkhgefbnfaa.BH
