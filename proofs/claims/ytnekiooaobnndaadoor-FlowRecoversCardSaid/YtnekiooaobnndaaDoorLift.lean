/-
 From the reading of an argument as data to what lies in memory, and from a law's contract to the row's words. No program is named here.
-/
import Derived.Test.YtnekiooaobnndaaDoorRegHead
import Derived.ProofKit
import Derived.OpenShut
import Derived.SizedLaws
import Derived.Carry
import Derived.Deep.CondSized
namespace Go.Proofs.YtnekiooaobnndaaDoor.BH
open Go.RowKit Go.ChangeShapes Go.WideShapes Go.Deep

/-- what the form's own reach says of a datum -/
def Fits {H : Type} (P : Program) (t : TypeId) (d : DataW H) : Prop := ∀ n ∈ d.weights P t, n ≤ reachBytes

section
variable {H : Type} {enc : TypeId × Value → H} {P : Program} {w : World}

theorem fits_each {ts : List TypeId} {ds : List (DataW H)} (h : (DataW.weightsEach P ts ds).all (· ≤ reachBytes) = true) {j : Nat} {t : TypeId} {d : DataW H} (ht : ts[j]? = some t) (hd : ds[j]? = some d) : Fits P t d := fun n hn => by
 simpa using List.all_eq_true.1 h n (DataW.weights_mem_each ht hd n hn)

theorem mem_weightsAll {e : TypeId} {l : List (DataW H)} {d : DataW H} (h : d ∈ l) {n : Nat} (hn : n ∈ d.weights P e) : n ∈ DataW.weightsAll P e l := by
 induction l with
 | nil => cases h
 | cons x r ih =>
  simp only [DataW.weightsAll, List.mem_append]
  cases List.mem_cons.1 h with
  | inl e => subst e; exact Or.inl hn
  | inr e => exact Or.inr (ih e)

/-- A SLICE, OPENED. -/
theorem arr_open {t e : TypeId} {fuel k : Nat} {c : Value} {x : DataW H × List MemPlace} (ht : P.underlying t = some (.slice e)) (hk : P.cellsOf e = k) (hk0 : 0 < k)
  (h : DataW.trod enc P w 0 (fun _ => true) true fuel t [c] = some x) (hf : Fits P t x.1) :
  ∃ (n m : Nat) (cs : Nat → Nat → Value), Arr w c n k cs ∧ n * P.bytesOf e ≤ reachBytes ∧ ∀ i, i < n → ∃ y, DataW.trod enc P w 0 (fun _ => true) true m e ((List.range k).map (cs i)) = some y ∧ Fits P e y.1 := by
 rcases open_slice ht h with ⟨hc, _⟩ | ⟨a, len, cap, m, fu, D, Pl, hc, _, hl, hm, hmm, rfl, hx⟩
 ·simp only [List.cons.injEq, and_true] at hc
  subst hc
  exact ⟨0, 0, fun _ _ => undef, ⟨none, 0, rfl, Nat.le_refl _, by unfold maxLen; omega, fun _ => rfl, fun h => absurd h (Nat.lt_irrefl _)⟩, by simp, fun i hi => absurd hi (Nat.not_lt_zero _)⟩
 ·simp only [List.cons.injEq, and_true] at hc
  subst hc
  have hmc : m = cap := by simpa using hmm
  subst hmc
  rw [hk] at hx
  obtain ⟨C, hC⟩ := choose_lt (α := List Value) (p := fun i cs' => w.cells? 0 (a.add (i * k)) k = some cs' ∧ DataW.trod enc P w 0 (fun _ => true) true fu e cs' = some (D i, Pl i)) hx
  have hcell : ∀ i j, i < m → j < k → w.cell? ((a.add (i * k)).add j) = some ((C i).getD j undef) ∧ (C i).length = k := by
   intro i j hi hj
   obtain ⟨_, hlen, hcs⟩ := World.cells?_some (hC i hi).1
   refine ⟨?_, hlen⟩
   rw [hcs j hj]
   simp [List.getElem?_eq_getElem (show j < (C i).length by omega)]
  refine ⟨len, fu, fun i j => (C i).getD j undef, ⟨some a, m, rfl, hl, hm, (fun h => by cases h), fun hn => ?_⟩, ?_, fun i hi => ⟨(D i, Pl i), ?_, ?_⟩⟩
  ·have h0 := (hcell 0 0 (by omega) hk0).1
   have hspot : a.spot = none := by
    rw [Nat.zero_mul] at h0
    simp only [Addr.add, ↓reduceIte] at h0
    unfold World.cell? at h0
    cases hs : a.spot with
    | none => rfl
    | some _ =>
     simp only [hs, Option.isSome_some, ↓reduceIte] at h0
     split at h0 <;> cases h0
   obtain ⟨ab, ao, asp⟩ := a
   obtain rfl : asp = none := hspot
   refine ⟨ab, ao, rfl, fun i j hi hj => ?_⟩
   rw [← (hcell i j (by omega) hj).1, add_add]
   unfold Addr.add
   split
   ·rename_i h00
    rw [show ao + i * k + j = ao by omega]
   ·rw [Nat.add_assoc]
  ·have := hf ((((List.range len).map D).length + ((List.range (m - len)).map fun j => D (len + j)).length) * P.bytesOf e) (by simp [DataW.weights, ht])
   simp only [List.length_map, List.length_range] at this
   exact Nat.le_trans (Nat.mul_le_mul_right _ (by omega)) this
  ·rw [← (hC i (by omega)).2]
   refine congrArg _ ?_
   obtain ⟨_, hlen⟩ := hcell i 0 (by omega) hk0
   apply List.ext_getElem?
   intro j
   by_cases hj : j < k
   ·simp [hj, List.getElem?_eq_getElem (show j < (C i).length by omega)]
   ·simp [Nat.le_of_not_lt hj, hlen]
  ·intro n hn
   refine hf n ?_
   simp only [DataW.weights, ht, List.mem_cons, List.mem_append]
   exact Or.inr (Or.inl (mem_weightsAll (List.mem_map.2 ⟨i, List.mem_range.2 hi, rfl⟩) hn))

/-- an int of 64 bits -/
def I64 (x : Int) : Prop := -9223372036854775808 ≤ x ∧ x ≤ 9223372036854775807
theorem int_open {t : TypeId} {fuel : Nat} {c : Value} {x : DataW H × List MemPlace} {base : Nat} {sp : Nat → Bool} {hd : Bool} (ht : P.underlying t = some (.int .i64)) (h : DataW.trod enc P w base sp hd fuel t [c] = some x) : ∃ z : Int, c = .int .i64 z ∧ I64 z := by
 obtain ⟨z, hc, _, hw⟩ := DataW.trod_int ht h
 simp only [List.cons.injEq, and_true] at hc
 exact ⟨z, hc, by simpa [Lit.wf, IntKind.min, IntKind.max, IntKind.signed, IntKind.bits, I64] using hw⟩
theorem byte_open {t : TypeId} {fuel : Nat} {c : Value} {x : DataW H × List MemPlace} {base : Nat} {sp : Nat → Bool} {hd : Bool} (ht : P.underlying t = some (.int .u8)) (h : DataW.trod enc P w base sp hd fuel t [c] = some x) : ∃ z : UInt8, c = .int .u8 (z.toNat : Int) := by
 obtain ⟨z, hc, _, hw⟩ := DataW.trod_int ht h
 simp only [List.cons.injEq, and_true] at hc
 have hb : 0 ≤ z ∧ z ≤ 255 := by simpa [Lit.wf, IntKind.min, IntKind.max, IntKind.signed, IntKind.bits] using hw
 refine ⟨UInt8.ofNat z.toNat, ?_⟩
 rw [hc]
 congr 1
 simp only [UInt8.toNat_ofNat']
 omega
theorem nth_map_range {α : Type} [Inhabited α] (f : Nat → α) {n i : Nat} (h : i < n) : nth ((List.range n).map f) i = f i := by
 rw [nth_eq _ _ (by simpa using h)]; simp

theorem ints_open {t e : TypeId} {fuel : Nat} {c : Value} {x : DataW H × List MemPlace} (ht : P.underlying t = some (.slice e)) (hk : P.cellsOf e = 1) (he : P.underlying e = some (.int .i64)) (hby : P.bytesOf e = 8)
  (h : DataW.trod enc P w 0 (fun _ => true) true fuel t [c] = some x) (hf : Fits P t x.1) : ∃ l : List Int, Ints w c l ∧ (∀ i, i < l.length → I64 (nth l i)) ∧ l.length * 8 ≤ reachBytes := by
 obtain ⟨n, m, cs, ha, hb, hx⟩ := arr_open ht hk (by omega) h hf
 obtain ⟨f, hfz⟩ := choose_lt (α := Int) (p := fun i z => cs i 0 = .int .i64 z ∧ I64 z) (fun i hi => by
  obtain ⟨y, hy, _⟩ := hx i hi
  exact int_open he hy)
 refine ⟨(List.range n).map f, ?_, fun i hi => ?_, by simpa [hby] using hb⟩
 ·unfold Ints
  simp only [List.length_map, List.length_range]
  exact ha.congr fun i j hi hj => by rw [nth_map_range f hi, show j = 0 by omega]; exact (hfz i hi).1
 ·simp only [List.length_map, List.length_range] at hi
  rw [nth_map_range f hi]; exact (hfz i hi).2
theorem bytes_open {t e : TypeId} {fuel : Nat} {c : Value} {x : DataW H × List MemPlace} (ht : P.underlying t = some (.slice e)) (hk : P.cellsOf e = 1) (he : P.underlying e = some (.int .u8)) (hby : P.bytesOf e = 1)
  (h : DataW.trod enc P w 0 (fun _ => true) true fuel t [c] = some x) (hf : Fits P t x.1) : ∃ l : List UInt8, Bytes w c l ∧ l.length ≤ reachBytes := by
 obtain ⟨n, m, cs, ha, hb, hx⟩ := arr_open ht hk (by omega) h hf
 obtain ⟨f, hfz⟩ := choose_lt (α := UInt8) (p := fun i z => cs i 0 = .int .u8 (z.toNat : Int)) (fun i hi => by
  obtain ⟨y, hy, _⟩ := hx i hi
  exact byte_open he hy)
 refine ⟨(List.range n).map f, ?_, by simpa [hby] using hb⟩
 unfold Bytes
 simp only [List.length_map, List.length_range]
 exact ha.congr fun i j hi hj => by rw [nth_map_range f hi, show j = 0 by omega]; exact hfz i hi

/-- The arguments read behind the call as before it. -/
theorem args_keep {W W' : World} (hl : laidOutB P = true) : ∀ {ts : List TypeId} {vs : List Value} {ds : List (DataW H)} {ps : List MemPlace},
  (∀ t ∈ ts, P.readableRec t = true ∧ t < P.types.size) → Below W.heap.size W W' → (∀ x ∈ ps, x.block < W.heap.size) →
  DataW.TrodAll enc P W 0 (fun _ => true) true ts vs ds ps → DataW.TrodAll enc P W' 0 (fun b => decide (b < W.heap.size)) true ts vs ds ps
 | [], vs, ds, ps, _, _, _, h => by
  obtain ⟨rfl, rfl, rfl⟩ := trodAll_nil h
  exact rfl
 | t :: ts, vs, ds, ps, hr, hb, hlt, h => by
  obtain ⟨v, vs', d, ds', p, q, rfl, rfl, rfl, h0, h1⟩ := trodAll_cons h
  exact ⟨p, q, Below.trod hl (hr t (by simp)).1 (hr t (by simp)).2 h0 hb (fun x hx => hlt x (by simp [hx])),
   args_keep hl (fun u hu => hr u (by simp [hu])) hb (fun x hx => hlt x (by simp [hx])) h1, rfl⟩

/-- WHAT A LAW's ROW ASKS, out of its contract: it has returned true and turned nothing. -/
theorem law_post {fn : Func} {s : ChangeSpec} {W W' : World} {args : Array Value} {ds gs : List (DataW H)} {before : List MemPlace} {tb : TypeId}
  (hl : laidOutB P = true) (hr : ∀ t ∈ fn.params.toList, P.readableRec t = true ∧ t < P.types.size) (hres : fn.resultTypes = #[tb]) (htb : P.underlying tb = some .bool)
  (hs : (s.fn H (ds ++ gs)).results = [.lit (.bool true)]) (hsa : (s.fn H (ds ++ gs)).args = ds) (hsv : (s.fn H (ds ++ gs)).vars = []) (hv : s.vars = [])
  (hW : DataW.Whole enc P fn.params.toList s.vars false W args.toList ds gs before) (hb : Keeps W W') :
  s.post enc P fn false true false false W args (.bool true) W' := by
 have hW' := hW
 obtain ⟨p, q, hA, hV, rfl, hfz, hnd⟩ := hW
 refine ⟨ds, gs, p ++ q, [], p, [], hW', ?_, ?_, ?_, Below.frame hb _, fun h => by cases h⟩
 ·rw [hres, hs]
  exact trodAll_cons_mk (shut_bool htb true) trodAll_mk0
 ·rw [hsa]
  exact args_keep hl hr hb (fun x hx => hW'.lt x (by simp [hx])) hA
 ·rw [hsv, hv]; exact rfl
end
end Go.Proofs.YtnekiooaobnndaaDoor.BH
