/-
  A row of the call's own that a sort turns: elements of k cells, laid flat in one block; all else is as it was, but for new blocks. No program is named here.
-/
import Derived.Test.YtjnhiiidcjajbaaGreatDoorOwn
import Derived.Shelf.GgSortFunc.RowK
import Derived.Shelf.SlSortCmp.QuietGrown
namespace Go.Proofs.YtjnhiiidcjajbaaGreatDoor.BH
open Go.RowKit Go.Sort
set_option maxRecDepth 100000

theorem heap_grow_get (w : World) (os : Array Obj) (g : Nat) (h : g < w.heap.size) : (grow w os).heap[g]? = w.heap[g]? := heap_grow_old w os h
theorem Keeps.grow {a w : World} (h : Keeps a w) (os : Array Obj) : Keeps a (grow w os) :=
  Keeps.trans h ⟨rfl, rfl, rfl, by rw [size_grow]; exact Nat.le_add_right _ _, fun b hb => heap_grow_old w os hb⟩

variable {γ : Type} [Inhabited γ]
/-- The row of the elements of d lies in block g, each of k cells, and 'rest' behind it; but for block g, and new ones, the world is as w0. -/
structure SRow (w0 : World) (g : Nat) (e : TypeId) (k : Nat) (f : γ → List Value) (rest : Array Value) (d : Array γ) (w : World) : Prop where
  gr : w0.grownBy w (some g)
  lt : g < w0.heap.size
  blk : Blk w g (.cells (flatK f k d ++ rest) e)
  fk : ∀ x, (f x).length = k
section
variable {w0 w : World} {g : Nat} {e : TypeId} {k : Nat} {f : γ → List Value} {rest : Array Value} {d : Array γ}
theorem SRow.keep (h : SRow w0 g e k f rest d w) {w' : World} (hk : Keeps w w') : SRow w0 g e k f rest d w' := ⟨grown_below h.gr (Below.mono hk h.gr.size), h.lt, h.blk.keep hk, h.fk⟩
theorem SRow.glt (h : SRow w0 g e k f rest d w) : g < w.heap.size := h.blk.lt
theorem SRow.cellq (h : SRow w0 g e k f rest d w) {i j : Nat} (hi : i < d.size) (hj : j < k) {u : Value} (hu : (f d[i]!)[j]? = some u) : w.cell? ⟨g, i * k + j, none⟩ = some u := by
  refine h.blk.cell ?_
  have lt : i * k + j < d.size * k := by
    have := Nat.mul_le_mul_right k (show i + 1 ≤ d.size from hi)
    rw [Nat.add_mul, Nat.one_mul] at this
    omega
  have e1 : (i * k + j) / k = i := (blk_iff k i _ (by omega)).1 ⟨by omega, by omega⟩
  have e2 : (i * k + j) % k = j := by rw [Nat.mod_eq_sub_div_mul, e1]; omega
  have hs : i * k + j < (flatK f k d).size := by rw [size_flatK]; exact lt
  rw [Array.getElem?_append_left hs, Array.getElem?_eq_getElem hs, ← getElem!_pos (flatK f k d) _ hs, get_flatK _ _ _ _ lt, e1, e2]
  obtain ⟨p, q⟩ := List.getElem?_eq_some_iff.1 hu
  rw [getElem!_pos (f d[i]!) j p, q]
theorem SRow.thawed (h : SRow w0 g e k f rest d w) (j : Nat) : w.frozen? ⟨g, j, none⟩ = false := h.blk.thawed j
theorem setMany_append (rest : Array Value) : ∀ (vs : List Value) (s : Nat) (F : Array Value), s + vs.length ≤ F.size → setMany (F ++ rest) s vs = setMany F s vs ++ rest
  | [], _, _, _ => rfl
  | v :: r, s, F, h => by
    simp only [List.length_cons] at h
    rw [setMany, setMany, ← setMany_append rest r (s + 1) (F.setIfInBounds s v) (by rw [Array.size_setIfInBounds]; omega)]
    congr 1
    apply Array.toList_inj.1
    simp only [Array.toList_setIfInBounds, Array.toList_append]
    exact List.set_append_left _ _ (by rw [Array.length_toList]; omega)
theorem Blk.setCells {g : Nat} {e : TypeId} : ∀ (vs : List Value) (s : Nat) {c : Array Value} {w : World}, Blk w g (.cells c e) → Blk (w.setCells g s vs) g (.cells (setMany c s vs) e)
  | [], _, _, _, h => h
  | v :: r, s, c, w, h => by
    rw [World.setCells, setMany]
    exact Blk.setCells r (s + 1) (Blk.set h s v)
theorem grown_setCells (g : Nat) : ∀ (vs : List Value) (s : Nat) (w : World), w.grownBy (w.setCells g s vs) (some g)
  | [], _, w => (Keeps.refl w).grown _
  | v :: r, s, w => by
    rw [World.setCells]
    exact grown_trans (grown_setCell w g s v) (grown_setCells g r (s + 1) _)
theorem SRow.swap (h : SRow w0 g e k f rest d w) {i j : Nat} (hi : i < d.size) (hj : j < d.size) : SRow w0 g e k f rest (swp d i j) ((w.setCells g (i * k) (f d[j]!)).setCells g (j * k) (f d[i]!)) := by
  have bnd : ∀ x, x < d.size → x * k + k ≤ d.size * k := fun x hx => by
    have := Nat.mul_le_mul_right k (show x + 1 ≤ d.size from hx)
    rwa [Nat.add_mul, Nat.one_mul] at this
  refine ⟨grown_trans h.gr (grown_trans (grown_setCells g _ _ _) (grown_setCells g _ _ _)), h.lt, ?_, h.fk⟩
  have hb := Blk.setCells (f d[i]!) (j * k) (Blk.setCells (f d[j]!) (i * k) h.blk)
  rw [setMany_append rest _ _ _ (by rw [size_flatK, h.fk]; exact bnd i hi), setMany_append rest _ _ _ (by rw [size_setMany, size_flatK, h.fk]; exact bnd j hj), setMany_swp f k h.fk d i j hi hj] at hb
  exact hb
end
/-- What is asked of the sort's function: called with two that may stand in the row, it answers cf; it may draw and lay blocks; it turns nothing. -/
def CmpG (P : Program) (fn : FuncId) (cb : Array Value) (arg : γ → Value) (cf : γ → γ → Int) (Q : γ → Prop) (g : Nat) (w0 : World) : Prop :=
  ∀ w, w0.grownBy w (some g) → ∀ x y, Q x → Q y → Calls P fn (#[arg x, arg y] ++ cb) w fun e w' => e = .returned (.int .i64 (cf x y)) ∧ ∃ q os, w' = grow (w.drewN q) os
omit [Inhabited γ] in
theorem CmpG.at {P : Program} {fn : FuncId} {cb : Array Value} {arg : γ → Value} {cf : γ → γ → Int} {Q : γ → Prop} {g : Nat} {w0 w : World} (h : CmpG P fn cb arg cf Q g w0) (hw : w0.grownBy w (some g)) {x y : γ} (hx : Q x) (hy : Q y) (n : Nat) (os : Array Obj) :
    Calls P fn (#[arg x, arg y] ++ cb) (grow (w.drewN n) os) fun e w' => e = .returned (.int .i64 (cf x y)) ∧ ∃ q os', w' = grow ((grow (w.drewN n) os).drewN q) os' :=
  h _ (grown_below hw (Below.mono (Keeps.grow (Keeps.drewN (Keeps.refl w) n) os) hw.size)) x y hx hy
theorem flatK_list {f : γ → List Value} {k : Nat} (hf : ∀ x, (f x).length = k) (l : List γ) : (flatK f k l.toArray).toList = l.flatMap f := by
  apply List.ext_getElem?
  intro q
  by_cases hq : q < l.length * k
  · have k0 : 0 < k := by
      rcases Nat.eq_zero_or_pos k with h | h
      · subst h; simp at hq
      · exact h
    have h1 : q / k < l.length := Nat.div_lt_of_lt_mul (by rw [Nat.mul_comm]; exact hq)
    have h2 : q % k < k := Nat.mod_lt _ k0
    have e := flatMap_at hf l (q / k) (q % k) h1 h2
    rw [Nat.div_add_mod' q k] at e
    have hs : q < (flatK f k l.toArray).size := by rw [size_flatK]; simpa using hq
    rw [e, Array.getElem?_toList, Array.getElem?_eq_getElem hs, ← getElem!_pos (flatK f k l.toArray) _ hs, get_flatK _ _ _ _ (by simpa using hq), List.getElem?_eq_getElem (by rw [hf]; exact h2)]
    have : (l.toArray[q / k]! : γ) = nth l (q / k) := by rw [getElem!_pos _ _ (by simpa using h1), nth_eq l _ h1]; rfl
    rw [this, getElem!_pos _ _ (by rw [hf]; exact h2)]
  · rw [List.getElem?_eq_none (by rw [Array.length_toList, size_flatK]; simpa using hq), List.getElem?_eq_none (by rw [flatMap_len hf]; omega)]
/-- from a slice of the call's own to the sort's row, and back -/
theorem Own.srow {w : World} {base : Nat} {e : TypeId} {k : Nat} {f : γ → List Value} {v : Value} {l : List γ} (h : Own w base e k f v l) (hf : ∀ x, (f x).length = k) (hv : v ≠ .slice none 0 0) :
    ∃ g cap rest, v = .slice (some ⟨g, 0, none⟩) l.length cap ∧ base ≤ g ∧ l.length ≤ cap ∧ cap ≤ maxLen ∧ SRow w g e k f rest l.toArray w ∧ ∀ (d : Array γ) (w' : World), d.size = l.length → SRow w g e k f rest d w' → Own w' base e k f v d.toList ∧ w.grownBy w' (some g) := by
  obtain ⟨h1, h2⟩ := h
  rcases h2 with ⟨rfl, h0⟩ | ⟨g, cap, cur, rfl, hb, hg, hn, hc, hs, ht⟩
  · exact absurd rfl hv
  · have hcut : cur = flatK f k l.toArray ++ (cur.toList.drop (l.length * k)).toArray := by
      apply Array.toList_inj.1
      rw [Array.toList_append, flatK_list hf, ← ht]
      exact (List.take_append_drop _ _).symm
    refine ⟨g, cap, (cur.toList.drop (l.length * k)).toArray, rfl, hb, hn, hc, ⟨(Keeps.refl w).grown _, lt_of_block hg, by rw [← hcut]; exact hg, hf⟩, fun d w' hd hr => ⟨⟨?_, Or.inr ⟨g, cap, _, ?_, hb, hr.blk, ?_, hc, ?_, ?_⟩⟩, hr.gr⟩⟩
    · rw [flatMap_len hf]
    · simp [hd]
    · simpa [hd] using hn
    · have e1 : cur.size = (flatK f k l.toArray).size + (cur.toList.drop (l.length * k)).toArray.size := by
        conv => lhs; rw [hcut]
        exact Array.size_append
      rw [Array.size_append, size_flatK, hd]
      rw [size_flatK] at e1
      simp only [List.size_toArray] at e1 ⊢
      omega
    · rw [Array.toList_append, show flatK f k d = flatK f k d.toList.toArray by rfl, flatK_list hf, List.take_left' (by rw [flatMap_len hf])]
/-- the code's order -/
def ltc (cf : γ → γ → Int) (x y : γ) : Bool := decide (cf x y < 0)
theorem allQ_swp {Q : γ → Prop} {d : Array γ} {N i j : Nat} (hN : d.size = N) (h : ∀ q, q < N → Q d[q]!) (hi : i < N) (hj : j < N) : ∀ q, q < N → Q (swp d i j)[q]! := by
  intro q hq
  rw [swp_get d (by omega) (by omega)]
  split
  · exact h i hi
  · split
    · exact h j hj
    · exact h q hq
end Go.Proofs.YtjnhiiidcjajbaaGreatDoor.BH
