/-
  The two sorts of place.parts, as contracts on memory.
-/
import Derived.Test.YtofaghcnkppmbaaOrdCmp2
namespace Go.Proofs.Ytofaghcnkppmbaa
open Go.RowKit BH Go.Sort
set_option maxHeartbeats 10000000
set_option maxRecDepth 100000
theorem swo_pull {α β : Type} {lt : β → β → Bool} (S : SWO lt) (f : α → β) : SWO fun x y => lt (f x) (f y) :=
  ⟨fun _ => S.irrefl _, fun _ _ _ => S.trans _ _ _, fun _ _ _ => S.ntrans _ _ _⟩
theorem keeps_grown {w0 w w1 : World} {g : Nat} (k : Keeps w0 w) (h : w.grownBy w1 (some g)) (hg : w0.heap.size ≤ g) : Keeps w0 w1 :=
  k.trans' (below_grown h (Nat.le_refl w.heap.size |> fun _ => k.size) (fun q e => by cases e; exact hg)) (Nat.le_refl _)
theorem sortMine {w0 w : World} {B : Nat} {v vF vH : Value} {ms : List Sv} {R : Sv → List Int} {F H : List Int} {i fb ib hb : Nat} (k0 : Keeps w0 w) (hB : w0.heap.size ≤ B) (hBw : B ≤ w.heap.size) (own : Own w B 24 1 cCh v ms) (hl : ms.length < 1152921504606846976)
    (hR : ∀ x, x ∈ ms → Ints w0 (argCh x) (R x)) (hF : Ints w0 vF F) (hH : Ints w0 vH H) (cf : w.cell? ⟨fb, 2, none⟩ = some vF) (ci : w.cell? ⟨ib, 0, none⟩ = some (.int .i64 (i : Int))) (ch : w.cell? ⟨hb, 0, none⟩ = some vH) (lf : fb < B) (li : ib < B) (lh : hb < B)
    (hi : i < F.length) (ne : ∀ x, x ∈ ms → R x ≠ []) (rg : ∀ x, x ∈ ms → ∀ b, b ∈ R x → 0 ≤ b ∧ b < H.length) (hn : ∀ j, j < H.length → 0 ≤ nth H j) (sm : ∀ x, x ∈ ms → sumH H (R x) ≤ 4611686018427387904)
    (dis : ∀ i j, i < ms.length → j < ms.length → i ≠ j → hdC (R (nth ms i)) ≠ hdC (R (nth ms j))) :
    Calls Try.prog 34 #[v, .func (.func 35) #[] #[.pointer (some ⟨fb, 0, none⟩), .pointer (some ⟨ib, 0, none⟩), .pointer (some ⟨hb, 0, none⟩)]] w
      fun e w' => e = .returned (.tuple #[]) ∧ Own w' B 24 1 cCh v (ms.mergeSort (leOf fun x y => mineLt (nth F i) (sumH H) (R x) (R y))) ∧ w.grownBy w' v.ownBlock := by
  refine sortStable_ch (cf := fun x y => cmp1 (nth F i) (sumH H) (R x) (R y)) (Q := fun x j => j < ms.length ∧ x = nth ms j) (enters_of Try.func35 (by kernel_rfl) rfl) ?_ (swo_pull (mineLt_swo _ _) R) ?_ hl own (fun j hj => ⟨hj, rfl⟩) hBw
  · intro g hg w1 h1 x y hx hy
    have hgB := own.row g hg
    have k1 : Keeps w0 w1 := keeps_grown k0 h1 (by omega)
    have mx : x.1 ∈ ms := by rw [hx.2]; exact nth_in hx.1
    have my : y.1 ∈ ms := by rw [hy.2]; exact nth_in hy.1
    exact parts1_any (Arr.keep (hR _ mx) k1) (Arr.keep (hR _ my) k1) (h1.cell cf (by intro e; injection e with e; dsimp only at e; omega)) (Arr.keep hF k1) (h1.cell ci (by intro e; injection e with e; dsimp only at e; omega)) (h1.cell ch (by intro e; injection e with e; dsimp only at e; omega)) (Arr.keep hH k1) (ne _ mx) (ne _ my) hi (rg _ mx) (rg _ my) hn (sm _ mx) (sm _ my)
  · intro x y a b hx hy hab
    have hd := dis a b hx.1 hy.1 hab
    rw [← hx.2, ← hy.2] at hd
    exact cmp1_lt (fun e => absurd e hd) (fun e => hd (by rw [e]))
theorem sortParts {w : World} {B : Nat} {v vh : Value} {ps : List Pv} {H : List Int} {hb : Nat} (hBw : B ≤ w.heap.size) (own : Own w B 59 2 cPt v ps) (hl : ps.length < 1152921504606846976) (hH : Ints w vh H) (ch : w.cell? ⟨hb, 0, none⟩ = some vh) (lh : hb < B) (lv : ∀ b, vh.ownBlock = some b → b < B)
    (hr : ∀ x, x ∈ ps → 0 ≤ x.F ∧ x.F < H.length) (hn : ∀ j, j < H.length → 0 ≤ nth H j ∧ nth H j ≤ 4611686018427387904) :
    Calls Try.prog 37 #[v, .func (.func 38) #[] #[.pointer (some ⟨hb, 0, none⟩)]] w
      fun e w' => e = .returned (.tuple #[]) ∧ Own w' B 59 2 cPt v (ps.mergeSort (leOf fun x y => decide (nth H y.F.toNat < nth H x.F.toNat))) ∧ w.grownBy w' v.ownBlock := by
  refine sortStable_pt (cf := fun x y => nth H y.F.toNat - nth H x.F.toNat) (Q := fun x j => 0 ≤ x.F ∧ x.F < H.length) (enters_of Try.func38 (by kernel_rfl) rfl) ?_ ?_ ?_ hl own (fun j hj => hr _ (nth_in hj)) hBw
  · intro g hg w1 h1 x y hx hy
    have hgB := own.row g hg
    exact parts2_any (h1.cell ch (by intro e; injection e with e; dsimp only at e; omega)) (Arr.grown hH h1 (fun _ b hb _ e => by injection e with e; have := lv b hb; omega)) hx hy hn
  · refine ⟨fun x => by simp, fun x y z h1 h2 => ?_, fun x y z h1 h2 => ?_⟩
    · simp only [decide_eq_true_eq] at *; omega
    · simp only [decide_eq_false_iff_not] at *; omega
  · intro x y _ _ _ _ _
    exact decide_eq_decide.2 (by omega)
end Go.Proofs.Ytofaghcnkppmbaa
