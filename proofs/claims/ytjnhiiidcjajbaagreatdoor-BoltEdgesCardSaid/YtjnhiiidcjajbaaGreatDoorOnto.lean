/-
  What an append does to a slice of the call's own, whatever is appended: a slice that came in (nil or not), a string's bytes. No program is named here.
-/
import Derived.Test.YtjnhiiidcjajbaaGreatDoorOwn
import Derived.Deep.AppendSrc
namespace Go.Proofs.YtjnhiiidcjajbaaGreatDoor.BH
open Go.RowKit

section
variable {P : Program} {w : World} {ops : Array Oper} {rest : List Oper} {o : Oper} {a : Act} {Q : Exit → Act → World → Prop}

/-- the new row: what it owns -/
theorem owns_new {base : Nat} {e : TypeId} {k m old : Nat} {xs : List Value} {z : Value} (hz : z.cells.size = k) (hx : xs.length = m * k) (hb : base ≤ w.heap.size) (hm : m ≤ maxLen) :
    (w.drew.alloc (.cells (xs.toArray ++ Builtin.zeroCells z.cells (grownCap w m old e - m)) e)).ownsRow base e k (.slice (some ⟨w.heap.size, 0, none⟩) m (grownCap w m old e)) m xs := by
  have h1 := grownCap_ge w m old e
  refine ⟨hx, Or.inr ⟨w.heap.size, _, _, rfl, hb, heap_alloc_new w.drew _, h1, grownCap_le_maxLen w m old e hm, ?_, ?_⟩⟩
  · have : m + (grownCap w m old e - m) = grownCap w m old e := by omega
    simp only [Array.size_append, List.size_toArray, size_zeroCells, hz, hx]
    rw [← Nat.add_mul, this]
  · rw [Array.toList_append, ← hx]
    exact List.take_left

theorem run_onto (base : Nat) (t tx ty e : TypeId) (i : TypeInfo) (z : Value) (ht : P.underlying t = some (.slice e)) (hi : P.info? e = some i) (hz : i.zero = some z) (hzs : z.cells.size = i.size)
    (v : Value) (n : Nat) (xs : List Value) (hown : w.ownsRow base e i.size v n xs) (x : Value) (m : Nat) (news : List Value) (hs : Src P i.size tx x m news w)
    (hn : n + m ≤ maxLen) (hbytes : (n + m) * i.bytes ≤ 140737488355328) (hbase : base ≤ w.heap.size) :
    ∃ v' w', (Builtin.append_ #[t, tx] ty #[v, x]).run P w = .ok v' w' ∧ w'.ownsRow base e i.size v' (n + m) (xs ++ news) ∧ w.grownBy w' v.ownBlock ∧
      (∀ g, v'.ownBlock = some g → v.ownBlock = some g ∨ w.heap.size ≤ g) := by
  have h63 : ((n + m : Nat) : Int) ≤ 9223372036854775807 := by simp only [maxLen] at hn; omega
  have hlen : (xs ++ news).length = (n + m) * i.size := by rw [List.length_append, hown.1, hs.newsLen, Nat.add_mul]
  rcases hown.2 with ⟨rfl, rfl⟩ | ⟨g, cap, cur, rfl, hbg, hg, hnc, hcm, hcs, htake⟩
  · have hx : xs = [] := List.eq_nil_of_length_eq_zero (by simpa using hown.1)
    subst hx
    by_cases hm : m = 0
    · subst hm
      have hnw : news = [] := List.eq_nil_of_length_eq_zero (by simpa using hs.newsLen)
      refine ⟨.slice none 0 0, w, ?_, ?_, (Keeps.refl w).grown _, fun g hg => by cases hg⟩
      · have hc := hs.cells
        rw [hnw] at hc
        rcases hs.kind with ⟨e', hk'⟩ | hk' <;> simp [Builtin.append_, run_underlying ht, run_underlying hk', sizeOf, typeInfo, hi, hs.len, hc]
      · rw [hnw]; exact World.ownsRow_nil w base e i.size
    · have hr := run_append_grow_src (P := P) w t tx ty e i z ht hi hz none 0 0 [] (run_firstCells_none w.drew i.size 0 0 0) x m news hs (by omega) h63 (growslice_fits (by omega) hbytes)
      have ho := owns_new (w := w) (base := base) (e := e) (old := 0) (z := z) hzs hlen hbase hn
      simp only [List.nil_append, Nat.zero_add] at hr ho ⊢
      exact ⟨_, _, hr, ho, ((Keeps.refl w).drew.alloc _).grown _, fun g hg => Or.inr (by cases hg; exact Nat.le_refl _)⟩
  · by_cases hroom : n + m ≤ cap
    · have hfit : n * i.size + news.length ≤ cur.size := by rw [hs.newsLen, hcs, ← Nat.add_mul]; exact Nat.mul_le_mul_right _ hroom
      have hst := run_storeCells_at P g (n * i.size) e news 0 cur w hg (by simpa using hfit) hs.one
      simp only [Nat.add_zero] at hst
      refine ⟨.slice (some ⟨g, 0, none⟩) (n + m) cap, _, ?_, ⟨hlen, Or.inr ⟨g, cap, _, rfl, hbg, setRow_heap w g cur (cur.toList.take (n * i.size) ++ news ++ cur.toList.drop (n * i.size + news.length)).toArray e _ hg, hroom, hcm, ?_, ?_⟩⟩, ⟨rfl, rfl, rfl, by simp, fun k _ hk => setRow_other w g k _ (fun e => hk (by simp [Value.ownBlock, e]))⟩, fun g' hg' => Or.inl hg'⟩
      · rcases hs.kind with ⟨e', hk'⟩ | hk' <;> simp [Builtin.append_, run_underlying ht, run_underlying hk', sizeOf, typeInfo, hi, hs.len, hroom, hs.cells, Addr.add_lit, hst]
      · simp only [List.size_toArray, List.length_append, List.length_take, List.length_drop, Array.length_toList]
        omega
      · rw [htake, ← hlen]
        exact List.take_left
    · have hold : (Builtin.firstCells i.size n (.slice (some ⟨g, 0, none⟩) n cap)).run P w.drew = .ok xs.toArray w.drew :=
        run_firstCells_some w.drew i.size n ⟨g, 0, none⟩ n cap xs hown.1 (by simpa using hown.cells (g := g) rfl)
      have hr := run_append_grow_src (P := P) w t tx ty e i z ht hi hz (some ⟨g, 0, none⟩) n cap xs hold x m news hs (by omega) h63 (growslice_fits (by omega) hbytes)
      exact ⟨_, _, hr, owns_new (w := w) hzs hlen hbase hn, ((Keeps.refl w).drew.alloc _).grown _, fun g' hg' => Or.inr (by cases hg'; exact Nat.le_refl _)⟩

/-- a slice that reads as l, as what is appended -/
theorem src_arr {α : Type} [Inhabited α] {k : Nat} (hk : 0 < k) {f : α → List Value} (hf : ∀ y, (f y).length = k) (h1 : ∀ y, ∀ u ∈ f y, u.oneCell' = true) {tx e : TypeId} (htx : P.underlying tx = some (.slice e)) {x : Value} {ys : List α}
    (harr : Arr w x ys.length k (fun i j => (f (nth ys i)).getD j undef)) : Src P k tx x ys.length (ys.flatMap f) w := by
  obtain ⟨ao, cap, rfl, hn, hm, hcap, hc⟩ := harr
  cases ao with
  | none =>
    have hn0 : ys.length = 0 := by
      rcases Nat.eq_zero_or_pos ys.length with h0 | h0
      · exact h0
      · obtain ⟨b, off, hab, _⟩ := hc h0; cases hab
    obtain rfl : ys = [] := List.eq_nil_of_length_eq_zero hn0
    exact Src.ofNil w htx cap
  | some ad =>
    refine Src.ofSlice w htx ad ys.length cap (ys.flatMap f) (flatMap_len hf ys) (fun q u hu => ?_) fun u hu => by
      obtain ⟨y, _, hy⟩ := List.mem_flatMap.1 hu
      exact h1 y u hy
    have hq : q < ys.length * k := by
      rcases Nat.lt_or_ge q (ys.length * k) with h | h
      · exact h
      · rw [List.getElem?_eq_none (by rw [flatMap_len hf]; exact h)] at hu; cases hu
    have hn0 : 0 < ys.length := by
      rcases Nat.eq_zero_or_pos ys.length with h0 | h0
      · rw [h0] at hq; simp at hq
      · exact h0
    obtain ⟨b, off, hab, hcell⟩ := hc hn0
    cases hab
    have hi : q / k < ys.length := Nat.div_lt_of_lt_mul (by rw [Nat.mul_comm]; exact hq)
    have hj : q % k < k := Nat.mod_lt _ hk
    have e1 : q = q / k * k + q % k := (Nat.div_add_mod' q k).symm
    rw [e1, flatMap_at hf ys _ _ hi hj] at hu
    have hcl := hcell _ _ hi hj
    simp only [List.getD_eq_getElem?_getD, hu, Option.getD_some] at hcl
    rw [← hcl]
    unfold Addr.add
    split
    · rename_i h0
      rw [show off + q / k * k + q % k = off by omega]
    · simp only []
      rw [show off + q = off + q / k * k + q % k by omega]

/-- 'l = append(l, ys...)' -/
theorem wp_onto {α : Type} [Inhabited α] {K : Act → World → Prop} (s x : Operand) (t tx : TypeId)
    (ho : o.op = .call { callee := .builtin .append, args := #[s, x], argTypes := #[t, tx] })
    {e : TypeId} {z : Value} {k bytes : Nat} (ht : P.underlying t = some (.slice e)) (hi : (P.info? e).map (fun i => (i.zero, i.size, i.bytes)) = some (some z, k, bytes)) (hzs : z.cells.size = k)
    {base : Nat} {f : α → List Value} {v : Value} {l : List α} (hs : a.eval s = v) (hown : Own w base e k f v l)
    {ys : List α} {vx : Value} (hx : a.eval x = vx) (hsrc : Src P k tx vx ys.length (ys.flatMap f) w)
    (hbytes : (l.length + ys.length) * bytes ≤ 140737488355328) (hn : l.length + ys.length ≤ maxLen) (hbase : base ≤ w.heap.size)
    (h : ∀ v' w', Own w' base e k f v' (l ++ ys) → Below base w w' → w.grownBy w' v.ownBlock → (∀ g, v'.ownBlock = some g → v.ownBlock = some g ∨ w.heap.size ≤ g) → K (a.put o.dst v') w') : o.wp P a w K Q := by
  cases hinfo : P.info? e with
  | none => rw [hinfo] at hi; cases hi
  | some i =>
    rw [hinfo] at hi
    simp only [Option.map_some, Option.some.injEq, Prod.mk.injEq] at hi
    obtain ⟨hz, rfl, rfl⟩ := hi
    obtain ⟨v', w', hr, h2, h3, h4⟩ := run_onto (P := P) (w := w) base t tx o.type e i z ht hinfo hz hzs v l.length (l.flatMap f) hown vx ys.length (ys.flatMap f) hsrc hn hbytes hbase
    unfold Oper.wp execOp
    simp only [ho, resolve, invoke, builtin, Sem.run_bind, Sem.run_pure, Result.andThen_ok, List.map_toArray, List.map_cons, List.map_nil, hs, hx, hr]
    exact h v' w' (by unfold Own; simpa using h2) (below_grown h3 hbase hown.row) h3 h4

theorem wpList_onto {α : Type} [Inhabited α] (hgd : o.guard = none) (s x : Operand) (t tx : TypeId)
    (ho : o.op = .call { callee := .builtin .append, args := #[s, x], argTypes := #[t, tx] })
    {e : TypeId} {z : Value} {k bytes : Nat} (ht : P.underlying t = some (.slice e)) (hi : (P.info? e).map (fun i => (i.zero, i.size, i.bytes)) = some (some z, k, bytes)) (hzs : z.cells.size = k)
    {base : Nat} {f : α → List Value} {v : Value} {l : List α} (hs : a.eval s = v) (hown : Own w base e k f v l)
    {ys : List α} {vx : Value} (hx : a.eval x = vx) (hsrc : Src P k tx vx ys.length (ys.flatMap f) w)
    (hbytes : (l.length + ys.length) * bytes ≤ 140737488355328) (hn : l.length + ys.length ≤ maxLen) (hbase : base ≤ w.heap.size)
    (h : ∀ v' w', Own w' base e k f v' (l ++ ys) → Below base w w' → w.grownBy w' v.ownBlock → (∀ g, v'.ownBlock = some g → v.ownBlock = some g ∨ w.heap.size ≤ g) → wpList P ops Q rest (a.put o.dst v') w') : wpList P ops Q (o :: rest) a w :=
  wpList_plain hgd fun _ hK => wp_onto s x t tx ho ht hi hzs hs hown hx hsrc hbytes hn hbase fun v' w' h2 h3 h4 h5 => hK _ _ (h v' w' h2 h3 h4 h5)

/-- at a step of a region that draws its order -/
theorem step_onto {α : Type} [Inhabited α] {K : Act → World → Prop} {E : Prop} (hgd : o.guard = none) (s x : Operand) (t tx : TypeId)
    (ho : o.op = .call { callee := .builtin .append, args := #[s, x], argTypes := #[t, tx] })
    {e : TypeId} {z : Value} {k bytes : Nat} (ht : P.underlying t = some (.slice e)) (hi : (P.info? e).map (fun i => (i.zero, i.size, i.bytes)) = some (some z, k, bytes)) (hzs : z.cells.size = k)
    {base : Nat} {f : α → List Value} {v : Value} {l : List α} (hs : a.eval s = v) (hown : Own w base e k f v l)
    {ys : List α} {vx : Value} (hx : a.eval x = vx) (hsrc : Src P k tx vx ys.length (ys.flatMap f) w)
    (hbytes : (l.length + ys.length) * bytes ≤ 140737488355328) (hn : l.length + ys.length ≤ maxLen) (hbase : base ≤ w.heap.size)
    (h : ∀ v' w', Own w' base e k f v' (l ++ ys) → Below base w w' → w.grownBy w' v.ownBlock → (∀ g, v'.ownBlock = some g → v.ownBlock = some g ∨ w.heap.size ≤ g) → K (a.put o.dst v') w') :
    if Region.wanted o (yielded ops a.tmps) = true then Oper.wp P o a w K Q else E := by
  have hw : Region.wanted o (yielded ops a.tmps) = true := by simp [Region.wanted, hgd]
  rw [if_pos hw]
  exact wp_onto s x t tx ho ht hi hzs hs hown hx hsrc hbytes hn hbase h
end
theorem ints_arr {w : World} {v : Value} {l : List Int} (h : Ints w v l) : Arr w v l.length 1 (fun i j => (ci (nth l i)).getD j undef) := h.congr fun i j _ hj => by rw [show j = 0 by omega]; rfl
theorem bytes_arr {w : World} {v : Value} {l : List UInt8} (h : Bytes w v l) : Arr w v l.length 1 (fun i j => (cb (nth l i)).getD j undef) := h.congr fun i j _ hj => by rw [show j = 0 by omega]; rfl
theorem src_string {P : Program} {w : World} {tx : TypeId} (hk : P.underlying tx = some .string) (s : ByteArray) : Src P 1 tx (.string s) s.data.toList.length (s.data.toList.flatMap cb) w := by
  have h := Src.ofString (P := P) w hk s
  have e : s.data.toList.flatMap cb = byteCells s := by
    unfold byteCells cb
    induction s.data.toList with
    | nil => rfl
    | cons x r ih => simp [ih]
  rw [e, show s.data.toList.length = s.size by rw [Array.length_toList]; rfl]
  exact h
end Go.Proofs.YtjnhiiidcjajbaaGreatDoor.BH
