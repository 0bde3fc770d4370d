/-
  What place.parts keeps in memory and what it computes: no walk yet.
-/
import Derived.Test.YtofaghcnkppmbaaOrdPSort
import Derived.Test.YtofaghcnkppmbaaOrdChk
import Derived.Test.YtofaghcnkppmbaaFoot
namespace Go.Proofs.Ytofaghcnkppmbaa
open Go.RowKit BH Go.Sort
set_option maxHeartbeats 10000000
set_option maxRecDepth 100000
/-- is it a chain of the function i? -/
def selC (f : Fl) (i : Nat) (c : List Int) : Bool := !c.isEmpty && decide (fnc f (hdC c).toNat = i)
def mineC (f : Fl) (ls : List (List Int)) (i : Nat) : List (List Int) := ls.filter (selC f i)
def hotC (f : Fl) (ls : List (List Int)) (H : List Int) (i : Nat) : Int := ((mineC f ls i).map (sumH H)).sum
def partC (f : Fl) (ls : List (List Int)) (H : List Int) (i : Nat) : Pa := ⟨i, ((mineC f ls i).mergeSort (leOf (mineLt (nth f.Firsts i) (sumH H)))).flatten⟩
/-- what place.parts answers -/
def partsC (f : Fl) (ls : List (List Int)) (H : List Int) : List Pa :=
  ((List.range f.Firsts.length).map (partC f ls H)).mergeSort (leOf fun x y => decide (hotC f ls H y.Func.toNat < hotC f ls H x.Func.toNat))
theorem info_part : (Try.prog.info? 59).map (fun i => (i.zero, i.size, i.bytes)) = some (some (.agg #[.int .i64 0, .slice none 0 0]), 2, 32) := by kernel_rfl
def slP (p : Pv) : Value := .slice p.a p.n p.c
/-- a slice of parts -/
def PartsAt (w : World) (v : Value) (l : List Pa) : Prop :=
  ∃ tv : Nat → Value, Arr w v l.length 2 (fun i j => if j = 0 then .int .i64 (nth l i).Func else tv i) ∧ ∀ i, i < l.length → Ints w (tv i) (nth l i).Blocks
/-- parts as they grow: the call's own slice, and rows of blocks that lie elsewhere -/
structure PartsSt (w : World) (B : Nat) (v : Value) (ps : List Pv) (Bs : List Pa) : Prop where
  own : Own w B 59 2 cPt v ps
  len : ps.length = Bs.length
  fld : ∀ j, j < ps.length → (nth ps j).F = (nth Bs j).Func
  row : ∀ j, j < ps.length → Ints w (slP (nth ps j)) (nth Bs j).Blocks
  new : ∀ j b, j < ps.length → (slP (nth ps j)).ownBlock = some b → B ≤ b ∧ b < w.heap.size ∧ v.ownBlock ≠ some b
theorem PartsSt.nil (w : World) (B : Nat) : PartsSt w B (.slice none 0 0) [] [] := ⟨Own.nil _ _ _ _ _, rfl, (by intro j h; cases h), (by intro j h; cases h), (by intro j b h; cases h)⟩
theorem PartsSt.grown {w w' : World} {B : Nat} {v : Value} {ps : List Pv} {Bs : List Pa} (h : PartsSt w B v ps Bs) {row : Option Nat} (hg : w.grownBy w' row) (hr : ∀ r, row = some r → r < B ∨ w.heap.size ≤ r) : PartsSt w' B v ps Bs :=
  ⟨Own.other hg h.own fun g q e => by have h1 := h.own.row g q; have h2 := own_lt' h.own q; rcases hr g e.symm with p | p <;> omega, h.len, h.fld,
    fun j hj => Arr.grown (h.row j hj) hg fun _ b q hb e => by have h1 := h.new j b hj q; rcases hr b e.symm with p | p <;> omega,
    fun j b hj q => ⟨(h.new j b hj q).1, Nat.lt_of_lt_of_le (h.new j b hj q).2.1 hg.size, (h.new j b hj q).2.2⟩⟩
theorem PartsSt.keep {w w' : World} {B : Nat} {v : Value} {ps : List Pv} {Bs : List Pa} (h : PartsSt w B v ps Bs) (hk : Keeps w w') : PartsSt w' B v ps Bs := h.grown (hk.grown none) fun r e => by cases e
theorem PartsSt.push {w wc wa w7 : World} {B : Nat} {v v7 : Value} {ps : List Pv} {Bs : List Pa} {p : Pv} {l : List Int} (h : PartsSt w B v ps Bs) (hB : B ≤ w.heap.size) (hk : Keeps w wc) (hc : Own wc w.heap.size 3 1 ci (slP p) l)
    (o7 : Own w7 B 59 2 cPt v7 (ps ++ [p])) (g7 : wa.grownBy w7 v.ownBlock) (f7 : ∀ b, v7.ownBlock = some b → v.ownBlock = some b ∨ wa.heap.size ≤ b) (ka : Keeps wc wa) : PartsSt w7 B v7 (ps ++ [p]) (Bs ++ [⟨p.F, l⟩]) := by
  have k1 : Keeps w wa := hk.trans ka
  have hs := ka.size
  have hs2 := hk.size
  have hvl : ∀ b, v.ownBlock = some b → b < w.heap.size := fun b q => own_lt' h.own q
  have hn : (ps ++ [p]).length = ps.length + 1 := by simp
  refine ⟨o7, by simp [h.len], ?_, ?_, ?_⟩
  · intro j hj
    rcases Nat.lt_or_ge j ps.length with q | q
    · rw [nth_app_lt _ _ q, nth_app_lt _ _ (by rw [← h.len]; exact q)]; exact h.fld j q
    · obtain rfl : j = ps.length := by omega
      rw [nth_app_eq _ _ rfl, nth_app_eq _ _ h.len]
  · intro j hj
    rcases Nat.lt_or_ge j ps.length with q | q
    · rw [nth_app_lt _ _ q, nth_app_lt _ _ (by rw [← h.len]; exact q)]
      exact Arr.grown (Arr.keep (h.row j q) k1) g7 fun _ b q1 _ e => (h.new j b q q1).2.2 e.symm
    · obtain rfl : j = ps.length := by omega
      rw [nth_app_eq _ _ rfl, nth_app_eq _ _ h.len]
      exact Arr.grown (Arr.keep hc.ints ka) g7 fun _ b q1 _ e => by
        have h1 := hc.row b q1
        have h2 := hvl b e.symm
        omega
  · intro j b hj hb
    have g7s := g7.size
    rcases Nat.lt_or_ge j ps.length with q | q
    · rw [nth_app_lt _ _ q] at hb
      have h1 := h.new j b q hb
      refine ⟨h1.1, by omega, fun e => ?_⟩
      rcases f7 b e with p1 | p1
      · exact h1.2.2 p1
      · omega
    · obtain rfl : j = ps.length := by omega
      rw [nth_app_eq _ _ rfl] at hb
      have h1 := hc.row b hb
      have h2 := own_lt' hc hb
      refine ⟨by omega, by omega, fun e => ?_⟩
      rcases f7 b e with p1 | p1
      · have := hvl b p1; omega
      · omega
/-- sorted, and as it is read -/
theorem PartsSt.sorted {w w' : World} {B : Nat} {v : Value} {ps : List Pv} {Bs : List Pa} (h : PartsSt w B v ps Bs) (hg : w.grownBy w' v.ownBlock) {le1 : Pv → Pv → Bool} {le2 : Pa → Pa → Bool} (o : Own w' B 59 2 cPt v (ps.mergeSort le1))
    (hle : ∀ x y : Pv, ∀ a b : Pa, a ∈ Bs → b ∈ Bs → x.F = a.Func → y.F = b.Func → le1 x y = le2 a b) : PartsAt w' v (Bs.mergeSort le2) := by
  have hl := h.len
  obtain ⟨Z, hZ⟩ : ∃ Z, Z = ps.zip Bs := ⟨_, rfl⟩
  have e1 : Z.map Prod.fst = ps := by rw [hZ]; exact List.map_fst_zip (by omega)
  have e2 : Z.map Prod.snd = Bs := by rw [hZ]; exact List.map_snd_zip (by omega)
  have hz : ∀ z, z ∈ Z → z.1.F = z.2.Func ∧ Ints w' (slP z.1) z.2.Blocks := by
    intro z hz
    rw [hZ] at hz
    obtain ⟨j, hj, e⟩ := List.mem_iff_getElem.1 hz
    have hj1 : j < ps.length := by rw [List.length_zip] at hj; omega
    have hj2 : j < Bs.length := by omega
    rw [List.getElem_zip] at e
    have f1 : z.1 = nth ps j := by rw [← e, nth_eq _ _ hj1]
    have f2 : z.2 = nth Bs j := by rw [← e, nth_eq _ _ hj2]
    rw [f1, f2]
    exact ⟨h.fld j hj1, Arr.grown (h.row j hj1) hg fun _ b q _ e => (h.new j b hj1 q).2.2 e.symm⟩
  have m1 : ps.mergeSort le1 = (Z.mergeSort fun a b => le1 a.1 b.1).map Prod.fst := by
    conv => lhs; rw [← e1]
    exact (List.map_mergeSort (r := fun a b : Pv × Pa => le1 a.1 b.1) (s := le1) (f := Prod.fst) (fun _ _ _ _ => rfl)).symm
  have m2 : Bs.mergeSort le2 = (Z.mergeSort fun a b => le1 a.1 b.1).map Prod.snd := by
    conv => lhs; rw [← e2]
    exact (List.map_mergeSort (r := fun a b : Pv × Pa => le1 a.1 b.1) (s := le2) (f := Prod.snd) (fun a ha b hb => (hle _ _ _ _ (by rw [← e2]; exact List.mem_map.2 ⟨a, ha, rfl⟩) (by rw [← e2]; exact List.mem_map.2 ⟨b, hb, rfl⟩) (hz a ha).1 (hz b hb).1))).symm
  obtain ⟨Z2, hZ2⟩ : ∃ Z2, Z2 = Z.mergeSort fun a b => le1 a.1 b.1 := ⟨_, rfl⟩
  have hz2 : ∀ z, z ∈ Z2 → z.1.F = z.2.Func ∧ Ints w' (slP z.1) z.2.Blocks := fun z q => hz z (by rw [hZ2] at q; exact List.mem_mergeSort.1 q)
  rw [← hZ2] at m1 m2
  rw [m1] at o
  rw [m2]
  have hlz : (Z2.map Prod.fst).length = (Z2.map Prod.snd).length := by simp
  refine ⟨fun j => slP (nth (Z2.map Prod.fst) j), ?_, ?_⟩
  · have ha := o.arr (fun _ => rfl)
    rw [hlz] at ha
    refine ha.congr fun i j hi hj => ?_
    have hi' : i < Z2.length := by simpa using hi
    have f1 : nth (Z2.map Prod.fst) i = (Z2[i]'hi').1 := by rw [nth_eq _ _ (by simpa using hi')]; simp
    have f2 : nth (Z2.map Prod.snd) i = (Z2[i]'hi').2 := by rw [nth_eq _ _ (by simpa using hi')]; simp
    have f3 := (hz2 _ (List.getElem_mem hi')).1
    rcases j with _ | _ | j
    · rw [f1, f2, if_pos rfl, ← f3]; rfl
    · rw [if_neg (by omega)]; rfl
    · omega
  · intro i hi
    have hi' : i < Z2.length := by simpa using hi
    have f1 : nth (Z2.map Prod.fst) i = (Z2[i]'hi').1 := by rw [nth_eq _ _ (by simpa using hi')]; simp
    have f2 : nth (Z2.map Prod.snd) i = (Z2[i]'hi').2 := by rw [nth_eq _ _ (by simpa using hi')]; simp
    dsimp only
    rw [f1, f2]
    exact (hz2 _ (List.getElem_mem hi')).2
/-- what make leaves: zeros -/
theorem own_made {w : World} {B n : Nat} {v : Value} (h : w.ownsRow B 3 1 v n (madeCells (Value.int .i64 0).cells (n * 1)).toList) : Own w B 3 1 ci v (List.replicate n 0) := by
  unfold Own
  rw [List.length_replicate]
  have e : (madeCells (Value.int .i64 0).cells (n * 1)).toList = (List.replicate n (0 : Int)).flatMap ci := by
    apply List.ext_getElem
    · rw [flatMap_len ci_len, List.length_replicate, Array.length_toList, size_madeCells]
    · intro i h1 h2
      have hi : i < n := by rw [Array.length_toList, size_madeCells] at h1; omega
      have e2 : (List.replicate n (0 : Int)).flatMap ci = List.replicate n (Value.int .i64 0) := by
        rw [List.flatMap_replicate]
        show (List.replicate n [Value.int .i64 0]).flatten = _
        exact List.flatten_replicate_singleton
      simp only [e2, List.getElem_replicate, Array.getElem_toList]
      unfold madeCells
      simp [Value.cells, Nat.mod_one]
  rw [← e]
  exact h
theorem sum_sublist {α : Type} {g : α → Int} {l1 l2 : List α} (h : l1.Sublist l2) (hg : ∀ x, x ∈ l2 → 0 ≤ g x) : (l1.map g).sum ≤ (l2.map g).sum := by
  induction h with
  | slnil => exact Int.le_refl _
  | cons a _ ih =>
    have h1 := ih fun x hx => hg x (List.mem_cons_of_mem _ hx)
    have h2 := hg a (List.mem_cons_self ..)
    simp only [List.map_cons, List.sum_cons]
    omega
  | cons_cons a _ ih =>
    have h1 := ih fun x hx => hg x (List.mem_cons_of_mem _ hx)
    simp only [List.map_cons, List.sum_cons]
    omega
theorem sum_nonneg' {α : Type} {g : α → Int} : ∀ l : List α, (∀ x, x ∈ l → 0 ≤ g x) → 0 ≤ (l.map g).sum
  | [], _ => Int.le_refl _
  | a :: r, h => by
    have h1 := h a (List.mem_cons_self ..)
    have h2 := sum_nonneg' r fun x hx => h x (List.mem_cons_of_mem _ hx)
    simp only [List.map_cons, List.sum_cons]
    omega
theorem hot_map (f : Fl) (vs : List Sv) (R : Sv → List Int) (H : List Int) (i : Nat) : ((vs.filter fun x => selC f i (R x)).map fun x => sumH H (R x)).sum = hotC f (vs.map R) H i := by
  unfold hotC mineC
  rw [List.filter_map, List.map_map]
  rfl
theorem hot_bd {f : Fl} {vs : List Sv} {R : Sv → List Int} {H : List Int} (rg : ∀ x, x ∈ vs → ∀ b, b ∈ R x → 0 ≤ b ∧ b < H.length) (hn : ∀ j, j < H.length → 0 ≤ nth H j) (tot : (vs.map fun x => sumH H (R x)).sum ≤ 4611686018427387904) (i : Nat) : 0 ≤ hotC f (vs.map R) H i ∧ hotC f (vs.map R) H i ≤ 4611686018427387904 := by
  have hnn : ∀ x, x ∈ vs → 0 ≤ sumH H (R x) := fun x hx => sumH_nonneg H (R x) hn (rg x hx)
  rw [← hot_map]
  exact ⟨sum_nonneg' _ fun x hx => hnn x (List.mem_filter.1 hx).1, Int.le_trans (sum_sublist List.filter_sublist hnn) tot⟩
theorem mine_map (f : Fl) (vs : List Sv) (R : Sv → List Int) (H : List Int) (i : Nat) :
    ((vs.filter fun x => selC f i (R x)).mergeSort (leOf fun x y => mineLt (nth f.Firsts i) (sumH H) (R x) (R y))).map R = (mineC f (vs.map R) i).mergeSort (leOf (mineLt (nth f.Firsts i) (sumH H))) := by
  unfold mineC
  rw [List.filter_map]
  exact List.map_mergeSort (fun _ _ _ _ => rfl)
theorem tabs_rd {w : World} {B : Nat} {e : TypeId} {v : Value} {ms : List Sv} {R : Sv → List Int} (h : Own w B e 1 cCh v ms) (hr : ∀ x, x ∈ ms → Ints w (argCh x) (R x)) : Tabs w v (ms.map R) := by
  refine ⟨fun j => argCh (nth ms j), ?_, ?_⟩
  · have ha := h.arr (fun _ => rfl)
    rw [List.length_map]
    exact ha.congr fun i j _ hj => by rw [show j = 0 by omega]; rfl
  · intro i hi
    have hi' : i < ms.length := by simpa using hi
    have e : nth (ms.map R) i = R (nth ms i) := by rw [nth_eq _ _ hi, List.getElem_map, ← nth_eq _ _ hi']
    dsimp only
    rw [e]
    exact hr _ (nth_in hi')
theorem flat_filter {α : Type} (p : List α → Bool) : ∀ l : List (List α), (l.filter p).flatten.length ≤ l.flatten.length
  | [] => Nat.le_refl _
  | a :: r => by
    have := flat_filter p r
    rw [List.filter_cons]
    split
    · simp only [List.flatten_cons, List.length_append] at *; omega
    · simp only [List.flatten_cons, List.length_append] at *; omega
end Go.Proofs.Ytofaghcnkppmbaa
