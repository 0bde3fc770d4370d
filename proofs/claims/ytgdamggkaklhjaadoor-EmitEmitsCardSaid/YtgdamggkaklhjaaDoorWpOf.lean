/-
Insertions from behind, as the document sorts: they make the
-/
import Derived.Test.YtgdamggkaklhjaaDoorRegHead
import Derived.Test.YtgdamggkaklhjaaDoorOrdJoinP
import Derived.Test.YtgdamggkaklhjaaDoorOwn
import Derived.Deep.AppendSrc
set_option linter.all false
section
namespace Go.Proofs.YtgdamggkaklhjaaDoor.BH
open Go.Sort
section
variable {α : Type} [Inhabited α]
end
structure Pa where
 Func : Int
 Blocks : List Int
 deriving Inhabited
end Go.Proofs.YtgdamggkaklhjaaDoor.BH
end
section
namespace Go.Proofs.YtgdamggkaklhjaaDoor.BH
open Go.RowKit

section
variable {P : Program} {w : World} {ops : Array Oper} {rest : List Oper} {o : Oper} {a : Act} {Q : Exit → Act → World → Prop}

theorem owns_new {base : Nat} {e : TypeId} {k m old : Nat} {xs : List Value} {z : Value} (hz : z.cells.size = k) (hx : xs.length = m * k) (hb : base ≤ w.heap.size) (hm : m ≤ maxLen) :
  (w.drew.alloc (.cells (xs.toArray ++ Builtin.zeroCells z.cells (grownCap w m old e - m)) e)).ownsRow base e k (.slice (some ⟨w.heap.size, 0, none⟩) m (grownCap w m old e)) m xs := by
 have h1 := grownCap_ge w m old e
 refine ⟨hx, Or.inr ⟨w.heap.size, _, _, rfl, hb, heap_alloc_new w.drew _, h1, grownCap_le_maxLen w m old e hm, ?_, ?_⟩⟩
 ·have : m + (grownCap w m old e - m) = grownCap w m old e := by omega
  simp only [Array.size_append, List.size_toArray, size_zeroCells, hz, hx]
  rw [← Nat.add_mul, this]
 rw [Array.toList_append, ← hx]
 exact List.take_left

theorem run_onto (base : Nat) (t tx ty e : TypeId) (i : TypeInfo) (z : Value) (ht : P.underlying t = some (.slice e)) (hi : P.info? e = some i) (hz : i.zero = some z) (hzs : z.cells.size = i.size)
  (v : Value) (n : Nat) (xs : List Value) (hown : w.ownsRow base e i.size v n xs) (x : Value) (m : Nat) (news : List Value) (hs : Src P i.size tx x m news w)
  (hn : n + m ≤ maxLen) (hbytes : (n + m) * i.bytes ≤ 140737488355328) (hbase : base ≤ w.heap.size) :
  ∃ v' w', (Builtin.append_ #[t, tx] ty #[v, x]).run P w = .ok v' w' ∧ w'.ownsRow base e i.size v' (n + m) (xs ++ news) ∧ w.grownBy w' v.ownBlock ∧
   (∀ g, v'.ownBlock = some g → v.ownBlock = some g ∨ w.heap.size ≤ g) := by
 have H5 : ((n + m : Nat) : Int) ≤ 9223372036854775807 := by simp only [maxLen] at hn; omega
 have H0 : (xs ++ news).length = (n + m) * i.size := by rw [List.length_append, hown.1, hs.newsLen, Nat.add_mul]
 rcases hown.2 with ⟨rfl, rfl⟩ | ⟨g, cap, cur, rfl, H8, hg, hnc, H9, Ha, H1⟩
 ·have hx : xs = [] := List.eq_nil_of_length_eq_zero (by simpa using hown.1)
  subst hx
  by_cases hm : m = 0
  ·subst hm
   have H6 : news = [] := List.eq_nil_of_length_eq_zero (by simpa using hs.newsLen)
   refine ⟨.slice none 0 0, w, ?_, ?_, (Keeps.refl w).grown _, fun g hg => by cases hg⟩
   ·have hc := hs.cells
    rw [H6] at hc
    rcases hs.kind with ⟨e', H2⟩ | H2 <;> simp [Builtin.append_, run_underlying ht, run_underlying H2, sizeOf, typeInfo, hi, hs.len, hc]
   rw [H6]; exact World.ownsRow_nil w base e i.size
  have hr := run_append_grow_src (P := P) w t tx ty e i z ht hi hz none 0 0 [] (run_firstCells_none w.drew i.size 0 0 0) x m news hs jo H5 (growslice_fits jo hbytes)
  have ho := owns_new (w := w) (base := base) (e := e) (old := 0) (z := z) hzs H0 hbase hn
  simp only [List.nil_append, Nat.zero_add] at hr ho ⊢
  exact ⟨_, _, hr, ho, ((Keeps.refl w).drew.alloc _).grown _, fun g hg => Or.inr (by cases hg; exact Nat.le_refl _)⟩
 by_cases hroom : n + m ≤ cap
 ·have H3 : n * i.size + news.length ≤ cur.size := by rw [hs.newsLen, Ha, ← Nat.add_mul]; exact Nat.mul_le_mul_right _ hroom
  have H7 := run_storeCells_at P g (n * i.size) e news 0 cur w hg (by simpa using H3) hs.one
  simp only [Nat.add_zero] at H7
  refine ⟨.slice (some ⟨g, 0, none⟩) (n + m) cap, _, ?_, ⟨H0, Or.inr ⟨g, cap, _, rfl, H8, setRow_heap w g cur (cur.toList.take (n * i.size) ++ news ++ cur.toList.drop (n * i.size + news.length)).toArray e _ hg, hroom, H9, ?_, ?_⟩⟩, ⟨rfl, rfl, rfl, by simp, fun k _ hk => setRow_other w g k _ (fun e => hk (by simp [Value.ownBlock, e]))⟩, fun g' hg' => Or.inl hg'⟩
  ·rcases hs.kind with ⟨e', H2⟩ | H2 <;> simp [Builtin.append_, run_underlying ht, run_underlying H2, sizeOf, typeInfo, hi, hs.len, hroom, hs.cells, Addr.add_lit, H7]
  ·simp only [List.size_toArray, List.length_append, List.length_take, List.length_drop, Array.length_toList]
   omega
  rw [H1, ← H0]
  exact List.take_left
 have H4 : (Builtin.firstCells i.size n (.slice (some ⟨g, 0, none⟩) n cap)).run P w.drew = .ok xs.toArray w.drew :=
  run_firstCells_some w.drew i.size n ⟨g, 0, none⟩ n cap xs hown.1 (by simpa using hown.cells (g := g) rfl)
 have hr := run_append_grow_src (P := P) w t tx ty e i z ht hi hz (some ⟨g, 0, none⟩) n cap xs H4 x m news hs jo H5 (growslice_fits jo hbytes)
 exact ⟨_, _, hr, owns_new (w := w) hzs H0 hbase hn, ((Keeps.refl w).drew.alloc _).grown _, fun g' hg' => Or.inr (by cases hg'; exact Nat.le_refl _)⟩

theorem src_arr {α : Type} [Inhabited α] {k : Nat} (hk : 0 < k) {f : α → List Value} (hf : ∀ y, (f y).length = k) (h1 : ∀ y, ∀ u ∈ f y, u.oneCell' = true) {tx e : TypeId} (htx : P.underlying tx = some (.slice e)) {x : Value} {ys : List α}
  (harr : Arr w x ys.length k (fun i j => (f (nth ys i)).getD j undef)) : Src P k tx x ys.length (ys.flatMap f) w := by
 obtain ⟨ao, H4, rfl, hn, hm, H6, hc⟩ := harr
 cases ao with
 | none =>
  have H2 : ys.length = 0 := by
   rcases Nat.eq_zero_or_pos ys.length with h0 | h0
   ·exact h0
   obtain ⟨b, H0, H3, _⟩ := hc h0; cases H3
  obtain rfl : ys = [] := List.eq_nil_of_length_eq_zero H2
  exact Src.ofNil w htx H4
 | some ad =>
  refine Src.ofSlice w htx ad ys.length H4 (ys.flatMap f) (flatMap_len hf ys) (fun q u hu => ?_) fun u hu => by obtain ⟨y, _, hy⟩ := List.mem_flatMap.1 hu; exact h1 y u hy
  have hq : q < ys.length * k := by
   rcases Nat.lt_or_ge q (ys.length * k) with h | h
   ·exact h
   rw [List.getElem?_eq_none (by rw [flatMap_len hf]; exact h)] at hu; cases hu
  have H2 : 0 < ys.length := by
   rcases Nat.eq_zero_or_pos ys.length with h0 | h0
   ·rw [h0] at hq; simp at hq
   exact h0
  obtain ⟨b, H0, H3, H1⟩ := hc H2
  cases H3
  have hi : q / k < ys.length := Nat.div_lt_of_lt_mul (by rw [Nat.mul_comm]; exact hq)
  have hj : q % k < k := Nat.mod_lt _ hk
  have e1 : q = q / k * k + q % k := (Nat.div_add_mod' q k).symm
  rw [e1, flatMap_at hf ys _ _ hi hj] at hu
  have H5 := H1 _ _ hi hj
  simp only [List.getD_eq_getElem?_getD, hu, Option.getD_some] at H5
  rw [← H5]
  unfold Addr.add
  split
  ·rename_i h0
   rw [show H0 + q / k * k + q % k = H0 by omega]
  simp only []
  rw [show H0 + q = H0 + q / k * k + q % k by omega]

theorem wp_onto {α : Type} [Inhabited α] {K : Act → World → Prop} (s x : Operand) (t tx : TypeId)
  (ho : o.op = .call { callee := .builtin .append, args := #[s, x], argTypes := #[t, tx] })
  {e : TypeId} {z : Value} {k bytes : Nat} (ht : P.underlying t = some (.slice e)) (hi : (P.info? e).map (fun i => (i.zero, i.size, i.bytes)) = some (some z, k, bytes)) (hzs : z.cells.size = k)
  {base : Nat} {f : α → List Value} {v : Value} {l : List α} (hs : a.eval s = v) (hown : Own w base e k f v l)
  {ys : List α} {vx : Value} (hx : a.eval x = vx) (hsrc : Src P k tx vx ys.length (ys.flatMap f) w)
  (hbytes : (l.length + ys.length) * bytes ≤ 140737488355328) (hn : l.length + ys.length ≤ maxLen) (hbase : base ≤ w.heap.size)
  (h : ∀ v' w', Own w' base e k f v' (l ++ ys) → Below base w w' → w.grownBy w' v.ownBlock → (∀ g, v'.ownBlock = some g → v.ownBlock = some g ∨ w.heap.size ≤ g) → K (a.put o.dst v') w') : o.wp P a w K Q := by
 cases hinfo : P.info? e with
 | none => rw [hinfo] at hi; cases hi
 | some i =>
  rw [hinfo] at hi
  simp only [Option.map_some, Option.some.injEq, Prod.mk.injEq] at hi
  obtain ⟨hz, rfl, rfl⟩ := hi
  obtain ⟨v', w', hr, h2, h3, h4⟩ := run_onto (P := P) (w := w) base t tx o.type e i z ht hinfo hz hzs v l.length (l.flatMap f) hown vx ys.length (ys.flatMap f) hsrc hn hbytes hbase
  unfold Oper.wp execOp
  simp only [ho, resolve, invoke, builtin, Sem.run_bind, Sem.run_pure, Result.andThen_ok, List.map_toArray, List.map_cons, List.map_nil, hs, hx, hr]
  exact h v' w' (by unfold Own; simpa using h2) (below_grown h3 hbase hown.row) h3 h4

theorem wpList_onto {α : Type} [Inhabited α] (hgd : o.guard = none) (s x : Operand) (t tx : TypeId)
  (ho : o.op = .call { callee := .builtin .append, args := #[s, x], argTypes := #[t, tx] })
  {e : TypeId} {z : Value} {k bytes : Nat} (ht : P.underlying t = some (.slice e)) (hi : (P.info? e).map (fun i => (i.zero, i.size, i.bytes)) = some (some z, k, bytes)) (hzs : z.cells.size = k)
  {base : Nat} {f : α → List Value} {v : Value} {l : List α} (hs : a.eval s = v) (hown : Own w base e k f v l)
  {ys : List α} {vx : Value} (hx : a.eval x = vx) (hsrc : Src P k tx vx ys.length (ys.flatMap f) w)
  (hbytes : (l.length + ys.length) * bytes ≤ 140737488355328) (hn : l.length + ys.length ≤ maxLen) (hbase : base ≤ w.heap.size)
  (h : ∀ v' w', Own w' base e k f v' (l ++ ys) → Below base w w' → w.grownBy w' v.ownBlock → (∀ g, v'.ownBlock = some g → v.ownBlock = some g ∨ w.heap.size ≤ g) → wpList P ops Q rest (a.put o.dst v') w') : wpList P ops Q (o :: rest) a w :=
 wpList_plain hgd fun _ hK => wp_onto s x t tx ho ht hi hzs hs hown hx hsrc hbytes hn hbase fun v' w' h2 h3 h4 h5 => hK _ _ (h v' w' h2 h3 h4 h5)

end
end Go.Proofs.YtgdamggkaklhjaaDoor.BH
end
section
namespace Go.Proofs.YtgdamggkaklhjaaDoor
open Go.RowKit BH
set_option maxHeartbeats 1000000
set_option maxRecDepth 100000


theorem clone_ints (v : Value) (l : List Int) (w : World) (hv : Ints w v l) (hl : l.length * 8 ≤ 140737488355328) :
  Calls Tryd.prog 32 #[v] w (Gives (fun v' w' => Ints w' v' l ∧ NewAt w.heap.size v') w) := by
 have HV := jH hv
 obtain ⟨ao, cap, rfl, -, -, H0, h0⟩ := hv
 have he := fun (w : World) (a : Option Addr) (n c : Nat) => Lib.run_eql_slice_nil (P := Tryd.prog) w 25 3 a n c 0 0 Tryd.underlying25
 cases ao with
 | none =>
  have H1 : l.length = 0 := by
   rcases Nat.eq_zero_or_pos l.length with h | h
   ·exact h
   obtain ⟨b, off, H4, _⟩ := h0 h; cases H4
  clear H0 h0
  have HL := jH H1
  clear H1
  go_enter Tryd.func32, Tryd.ntmps32
  go_wp2
  go_ret
  refine ⟨_, rfl, ⟨?_, NewAt.nil _ _ _⟩, Keeps.refl _⟩
  exact ⟨none, 0, by rw [HL.out]; rfl, by rw [HL.out]; omega, by unfold maxLen; omega, fun _ => rfl, fun h => absurd h (by rw [HL.out]; omega)⟩
 | some a =>
  clear H0 h0
  go_enter Tryd.func32, Tryd.ntmps32
  go_wp2_with (at_builtin; refine wpList_copy rfl (.tmp 5) (.tmp 6) 25 rfl Tryd.underlying25 info_int rfl jd (base := w.heap.size) rfl ?c0 rfl (HV.out.keep ((Keeps.refl _).alloc _)) ?c1 hl ?c2 ?_)
  case c0 => exact Own.of_block (α := Unit) (l := []) (f := fun _ => List.replicate 1 undef) (fun _ => by simp) (Nat.le_refl _) (Blk.top _ _) (by unfold maxLen; decide)
  case c1 =>
   intro i j hi hj
   match j, hj with
   | 0, _ => rfl
  case c2 => exact ((Keeps.refl w).alloc _).size
  intro v' w' H2 H3 hb
  go_wp2
  go_ret
  exact ⟨_, rfl, ⟨H2, H3⟩, ((Keeps.refl w).alloc _).trans' hb (Nat.le_refl _)⟩


end Go.Proofs.YtgdamggkaklhjaaDoor
end
section
namespace Go
variable {P : Program} {Q : Exit → Act → World → Prop}
def OnlyN (K : Act → World → Prop) : Exit → Act → World → Prop
 | .normal, a, w => K a w
 | _, _, _ => False
theorem upon_only {o : Oper} {a : Act} {K : Act → World → Prop} : ∀ {r : Result Next}, o.upon P a K (OnlyN K) r → o.upon P a K Q r
 | .ok (.value _) _, h => h
 | .ok .skip _, h => h
 | .ok (.defer _) _, h => h
 | .ok (.enter _ _) _, h => Calls.mono h fun e w'' he => by
   cases e with
   | returned v => exact he
   | panicked c => exact (he : False).elim
   | outgrown =>
    obtain ⟨_, _, q⟩ := (he : LetsOut (OnlyN K))
    exact (q : False).elim
 | .ok (.row _ _) _, h => Rows.mono h fun _ _ he => he
 | .halt (.panic _) _, h => (h : False).elim
 | .halt .blocked _, h => h.elim
 | .halt .waiting _, h => h.elim
 | .halt (.unsupported _) _, h => h.elim
theorem wp_of_list {o : Oper} {a : Act} {w : World} {ops : Array Oper} {K : Act → World → Prop} (hg : o.guard = none) (h : wpList P ops (OnlyN K) [o] a w) : o.wp P a w K Q := by
 have hw : Region.wanted o (yielded ops a.tmps) = true := by simp [Region.wanted, hg]
 simp only [wpList, hw, if_true] at h
 rcases h with h | ⟨_, h⟩
 ·exact upon_only h
 obtain ⟨_, _, q⟩ := h
 exact (q : False).elim
namespace Proofs.YtgdamggkaklhjaaDoor.BH
open Go.RowKit
theorem wp_copy_nil {K : Act → World → Prop} {o : Oper} {a : Act} {w : World} (hgd : o.guard = none) (x : Operand) (t : TypeId)
  (ho : o.op = .call { callee := .builtin .append, args := #[.const (.slice none 0 0), x], argTypes := #[t, t] })
  {e : TypeId} {z : Value} {k bytes : Nat} (ht : P.underlying t = some (.slice e)) (hi : (P.info? e).map (fun i => (i.zero, i.size, i.bytes)) = some (some z, k, bytes)) (hzs : z.cells.size = k) (hk : 0 < k)
  {v : Value} {n : Nat} {c : Nat → Nat → Value} (hx : a.eval x = v) (harr : Arr w v n k c) (h1 : ∀ i j, i < n → j < k → (c i j).oneCell' = true) (hbytes : n * bytes ≤ 140737488355328)
  (h : ∀ v' w', Arr w' v' n k c → NewAt w.heap.size v' → Keeps w w' → K (a.put o.dst v') w') : o.wp P a w K Q :=
 wp_of_list (ops := #[]) hgd (wpList_copy_nil hgd x t ho ht hi hzs hk hx harr h1 hbytes fun v' w' h1 h2 h3 => h v' w' h1 h2 h3)
end Proofs.YtgdamggkaklhjaaDoor.BH
end Go
end
