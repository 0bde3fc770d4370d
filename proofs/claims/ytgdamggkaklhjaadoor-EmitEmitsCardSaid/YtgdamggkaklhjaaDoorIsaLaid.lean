/-
isa.Check and the document's InstrFault: one contract each, 
-/
import Derived.Test.YtgdamggkaklhjaaDoorSame
import Derived.Test.YtgdamggkaklhjaaDoorMapF
import Derived.Test.YtgdamggkaklhjaaDoorImgOpen
import Derived.Sort.OwnSortedInts
import Derived.Shelf.SlSortCmp.InsertionK
import Derived.Test.YtgdamggkaklhjaaDoorRows
import Derived.Lib.LaidTab
set_option linter.all false
section
namespace Go.Proofs.YtgdamggkaklhjaaDoor
open Go.RowKit BH
set_option maxHeartbeats 4000000
set_option maxRecDepth 100000
theorem check_any (K D A B N : Int) (Lg : Bool) (w : World) (ht : Tab w) :
  Calls Tryd.prog 61 #[insV K D A B N Lg] w fun e w' => e = .returned (.int .i64 (insFault K D A B N Lg)) ∧ Keeps w w' := by
 by_cases h : K < 1 ∨ 24 < K
 ·rw [insFault_bad h]
  unfold insV
  go_enter Tryd.func61, Tryd.ntmps61
  go_wp2_with fail
  all_goals
   first
   | (exfalso; simp at *; omega)
   | (go_ret; exact ⟨rfl, by repeat (first | exact Keeps.refl _ | apply Keeps.alloc)⟩)
 obtain ⟨k, rfl⟩ : ∃ k : Nat, K = k := ⟨K.toNat, by omega⟩
 obtain ⟨lo, hi, s, d, a, b, n, lz, r, hm, h1, h2, hs, hl⟩ := kinds k jo jo
 rw [insFault_row hm h1 h2]
 have HO := jH (operands_any hm k D A B N Lg)
 obtain ⟨c0, c1, c2⟩ := ht k jo
 rw [hs] at c2
 have hG : 1 < w.heap.size := lt_of_cell c0
 clear hs ht
 unfold insV
 rcases rows hm with h | h | h | h | h | h | h | h | h | h | h | h
 all_goals
  obtain ⟨rfl, rfl, rfl, rfl, rfl, rfl, rfl, rfl, rfl⟩ := h
  clear hm
  go_enter Tryd.func61, Tryd.ntmps61
  go_wp2_with (first | (go_at_call 76; refine (HO.out _).mono ?_; rintro e w' ⟨rfl, rfl⟩) | (go_at_call 77; refine (reg_any _ _).mono ?_; rintro e w' ⟨rfl, rfl⟩) | (go_at_call 80; refine (near_any _ _).mono ?_; rintro e w' ⟨rfl, rfl⟩) | (go_at_call 78; refine (far_any _ _).mono ?_; rintro e w' ⟨rfl, rfl⟩) | (go_at_call 79; refine (within_any _ _ _ _).mono ?_; rintro e w' ⟨rfl, rfl⟩))
  all_goals
   go_ret
   refine ⟨?_, by repeat (first | exact Keeps.refl _ | apply Keeps.alloc)⟩
   clear HO
   congr 2
   simp at *
   simp [fault, regsOk, rangeOk, *] <;> omega
theorem instrFault_any (K D A B N : Int) (Lg : Bool) (w : World) :
  Calls Tryd.prog 44 #[insV K D A B N Lg] w fun e w' => e = .returned (.int .i64 (insFault K D A B N Lg)) ∧ Keeps w w' := by
 by_cases h : K < 1 ∨ 24 < K
 ·rw [insFault_bad h]
  unfold insV
  go_enter Tryd.func44, Tryd.ntmps44
  go_wp2_with ((go_at_call 20; refine (inR_any _ _ _ _).mono ?_; rintro e w' ⟨rfl, rfl⟩))
  all_goals
   first
   | (exfalso; simp at *; omega)
   | (go_ret; exact ⟨rfl, by repeat (first | exact Keeps.refl _ | apply Keeps.alloc)⟩)
 obtain ⟨k, rfl⟩ : ∃ k : Nat, K = k := ⟨K.toNat, by omega⟩
 obtain ⟨lo, hi, s, d, a, b, n, lz, r, hm, h1, h2, hs, hl⟩ := kinds k jo jo
 rw [insFault_row hm h1 h2]
 obtain ⟨HO, HP⟩ := hid2 (has_any hm h1 h2) (opOf_any k jo jo)
 clear hs
 unfold insV
 rcases rows hm with h | h | h | h | h | h | h | h | h | h | h | h
 all_goals
  obtain ⟨rfl, rfl, rfl, rfl, rfl, rfl, rfl, rfl, rfl⟩ := h
  clear hm
  go_enter Tryd.func44, Tryd.ntmps44
  go_wp2_with (first | (go_at_call 20; refine (inR_any _ _ _ _).mono ?_; rintro e w' ⟨rfl, rfl⟩) | (go_at_call 68; refine (HO.out _).mono ?_; rintro e w' ⟨rfl, rfl⟩) | (go_at_call 45; refine (HP.out _).mono ?_; rintro e w' ⟨rfl, rfl⟩))
  all_goals
   go_ret
   refine ⟨?_, by repeat (first | exact Keeps.refl _ | apply Keeps.alloc)⟩
   clear HO
   congr 2
   simp at *
   simp [fault, regsOk, rangeOk, *] <;> omega

def scan (g : Nat → Int) (e : Int) : Nat → Nat → Int
 | 0, _ => e
 | n + 1, i => if g i = 0 then scan g e n (i + 1) else g i
theorem scan_step {g : Nat → Int} {e R : Int} {N k : Nat} (hk : k < N) (h0 : g k = 0) (h : scan g e (N - k) k = R) : scan g e (N - (k + 1)) (k + 1) = R := by
 rw [show N - k = (N - (k + 1)) + 1 by omega, scan, if_pos h0] at h
 exact h
theorem scan_stop {g : Nat → Int} {e R : Int} {N k : Nat} (hk : k < N) (h0 : g k ≠ 0) (h : scan g e (N - k) k = R) : R = g k := by
 rw [show N - k = (N - (k + 1)) + 1 by omega, scan, if_neg h0] at h
 exact h.symm
theorem scan_end {g : Nat → Int} {e R : Int} {N k : Nat} (hk : k = N) (h : scan g e (N - k) k = R) : R = e := by
 rw [hk, Nat.sub_self] at h
 exact h.symm
theorem scan_split {g : Nat → Int} {e : Int} : ∀ {n i : Nat}, scan g e n i = if scan g 0 n i = 0 then e else scan g 0 n i
 | 0, _ => by simp [scan]
 | n + 1, i => by
  unfold scan
  by_cases h : g i = 0
  ·rw [if_pos h, if_pos h]; exact scan_split
  rw [if_neg h, if_neg h, if_neg h]

def chOk (c : Int) : Bool := decide ((97 ≤ c ∧ c ≤ 122) ∨ (48 ≤ c ∧ c ≤ 57) ∨ c = 95 ∨ c = 46)
def nmByte (s : ByteArray) (i : Nat) : Int := ((nth s.data.toList i).toNat : Int)
def nameOk (s : ByteArray) : Bool := decide (1 ≤ s.size ∧ s.size ≤ 16) && !(anyN (fun i => !chOk (nmByte s i)) s.size)

def fname (m : Img) (i : Nat) : ByteArray := (nth m.Funcs i).Name
def sumF (m : Img) : Nat → Int
 | 0 => 0
 | k + 1 => sumF m k + (nth m.Funcs k).Size
def sameName (m : Img) (i j : Nat) : Bool := (fname m j).toList == (fname m i).toList
def funBad (m : Img) (i : Nat) : Int :=
 if nameOk (fname m i) = false then 4
 else if anyN (sameName m i) i = true then 7
 else if (nth m.Funcs i).Start ≠ sumF m i ∨ (nth m.Funcs i).Size < 1 ∨ (m.Text.length : Int) - sumF m i < (nth m.Funcs i).Size then 8
 else 0
def outside (m : Img) (t : List Int) (j : Nat) : Bool := decide (nth t j < 0 ∨ (m.Text.length : Int) ≤ nth t j)
def tabBad (m : Img) (i : Nat) : Int :=
 if 20 < (nth m.Tables i).length then 1
 else if anyN (outside m (nth m.Tables i)) (nth m.Tables i).length = true then 2
 else 0
def dataOut (l : List Int) (j : Nat) : Bool := decide (nth l j < -1099511627776 ∨ 1099511627776 < nth l j)
def lastAt (l : List Ln) : Nat → Int
 | 0 => -1
 | k + 1 => (nth l k).At
def lineBad (m : Img) (i : Nat) : Int :=
 if (nth m.Lines i).N < 0 ∨ 10000 < (nth m.Lines i).N then 2
 else if (nth m.Lines i).At ≤ lastAt m.Lines i ∨ (m.Text.length : Int) ≤ (nth m.Lines i).At then 8
 else 0
def linesFault (m : Img) : Int := if 4000 < m.Lines.length then 1 else scan (lineBad m) 0 m.Lines.length 0
def dataFault (m : Img) : Int := if anyN (dataOut m.Data) m.Data.length = true then 2 else linesFault m
def tabsFault (m : Img) : Int := scan (tabBad m) (dataFault m) m.Tables.length 0
def entryFault (m : Img) : Int :=
 if m.Entry < 0 ∨ (m.Funcs.length : Int) ≤ m.Entry then 6
 else if 20 < m.Tables.length ∨ 64 < m.Data.length then 1
 else tabsFault m
def endFault (m : Img) (e : Int) : Int := if sumF m m.Funcs.length ≠ (m.Text.length : Int) then 8 else e
def funcsFault (m : Img) : Int := if 40 < m.Funcs.length then 1 else scan (funBad m) (endFault m 0) m.Funcs.length 0
def imgFault (m : Img) : Int :=
 if 8000 < m.Text.length then 1
 else if funcsFault m ≠ 0 then funcsFault m
 else entryFault m
theorem imgFault_scan (m : Img) (h1 : ¬ 8000 < m.Text.length) (h2 : ¬ 40 < m.Funcs.length) :
  imgFault m = scan (funBad m) (endFault m (entryFault m)) m.Funcs.length 0 := by
 unfold imgFault funcsFault
 rw [if_neg h1, if_neg h2]
 rw [scan_split (e := endFault m 0), scan_split (e := endFault m (entryFault m))]
 by_cases h : scan (funBad m) 0 m.Funcs.length 0 = 0
 ·rw [if_pos h, if_pos h]
  unfold endFault
  by_cases h3 : sumF m m.Funcs.length ≠ (m.Text.length : Int)
  ·rw [if_pos h3, if_pos h3]; simp
  rw [if_neg h3, if_neg h3]; simp
 rw [if_neg h, if_neg h, if_pos h]
theorem lineBad_zero {m : Img} {k : Nat} (h : lineBad m k = 0) : 0 ≤ (nth m.Lines k).N ∧ (nth m.Lines k).N ≤ 10000 ∧ lastAt m.Lines k < (nth m.Lines k).At ∧ (nth m.Lines k).At < (m.Text.length : Int) := by
 unfold lineBad at h
 split at h
 ·cases h
 split at h
 ·cases h
 omega

theorem lineBad_cases {m : Img} {k : Nat} (h : lineBad m k ≠ 0) : (((nth m.Lines k).N < 0 ∨ 10000 < (nth m.Lines k).N) ∧ lineBad m k = 2) ∨
  ((0 ≤ (nth m.Lines k).N ∧ (nth m.Lines k).N ≤ 10000) ∧ ((nth m.Lines k).At ≤ lastAt m.Lines k ∨ (m.Text.length : Int) ≤ (nth m.Lines k).At) ∧ lineBad m k = 8) := by
 unfold lineBad at h ⊢
 split
 ·rename_i h1; exact Or.inl ⟨h1, rfl⟩
 rename_i h1
 split
 ·rename_i h2; exact Or.inr ⟨by omega, h2, rfl⟩
 rename_i h2; rw [if_neg h1, if_neg h2] at h; exact absurd rfl h
theorem tabBad_cases (m : Img) (i : Nat) : (20 < (nth m.Tables i).length ∧ tabBad m i = 1) ∨ ((nth m.Tables i).length ≤ 20 ∧ ((anyN (outside m (nth m.Tables i)) (nth m.Tables i).length = true ∧ tabBad m i = 2) ∨ (anyN (outside m (nth m.Tables i)) (nth m.Tables i).length = false ∧ tabBad m i = 0))) := by
 unfold tabBad
 by_cases h1 : 20 < (nth m.Tables i).length
 ·rw [if_pos h1]; exact Or.inl ⟨h1, rfl⟩
 rw [if_neg h1]
 cases h2 : anyN (outside m (nth m.Tables i)) (nth m.Tables i).length with
 | true => exact Or.inr ⟨by omega, Or.inl ⟨rfl, if_pos rfl⟩⟩
 | false => exact Or.inr ⟨by omega, Or.inr ⟨rfl, if_neg (by simp)⟩⟩
theorem funBad_cases (m : Img) (k : Nat) : (nameOk (fname m k) = false ∧ funBad m k = 4) ∨ (nameOk (fname m k) = true ∧ ((anyN (sameName m k) k = true ∧ funBad m k = 7) ∨ (anyN (sameName m k) k = false ∧
  ((((nth m.Funcs k).Start ≠ sumF m k ∨ (nth m.Funcs k).Size < 1 ∨ (m.Text.length : Int) - sumF m k < (nth m.Funcs k).Size) ∧ funBad m k = 8) ∨ (((nth m.Funcs k).Start = sumF m k ∧ 1 ≤ (nth m.Funcs k).Size ∧ (nth m.Funcs k).Size ≤ (m.Text.length : Int) - sumF m k) ∧ funBad m k = 0))))) := by
 unfold funBad
 cases h1 : nameOk (fname m k) with
 | false => exact Or.inl ⟨rfl, if_pos rfl⟩
 | true =>
  refine Or.inr ⟨rfl, ?_⟩
  rw [if_neg (by simp)]
  cases h2 : anyN (sameName m k) k with
  | true => exact Or.inl ⟨rfl, if_pos rfl⟩
  | false =>
   refine Or.inr ⟨rfl, ?_⟩
   rw [if_neg (by simp)]
   by_cases h3 : (nth m.Funcs k).Start ≠ sumF m k ∨ (nth m.Funcs k).Size < 1 ∨ (m.Text.length : Int) - sumF m k < (nth m.Funcs k).Size
   ·exact Or.inl ⟨h3, if_pos h3⟩
   exact Or.inr ⟨by omega, if_neg h3⟩

theorem box6 (w : World) (T : TypeId) (a0 a1 a2 a3 a4 a5 : Value) : ∃ W1 : World, W1 = w.alloc (.cells #[a0, a1, a2, a3, a4, a5] T) ∧ Keeps w W1 ∧ w.heap.size < W1.heap.size ∧
  W1.cell? ⟨w.heap.size, 0, none⟩ = some a0 ∧ W1.cell? ⟨w.heap.size, 1, none⟩ = some a1 ∧ W1.cell? ⟨w.heap.size, 2, none⟩ = some a2 ∧ W1.cell? ⟨w.heap.size, 3, none⟩ = some a3 ∧ W1.cell? ⟨w.heap.size, 4, none⟩ = some a4 ∧ W1.cell? ⟨w.heap.size, 5, none⟩ = some a5 :=
 ⟨_, rfl, (Keeps.refl _).alloc _, by rw [sz_alloc]; omega, by simp, by simp, by simp, by simp, by simp, by simp⟩
end Go.Proofs.YtgdamggkaklhjaaDoor
end
section
namespace Go.Proofs.YtgdamggkaklhjaaDoor.BH
open Go.RowKit Go.Sort
set_option maxRecDepth 100000
variable {γ : Type} [Inhabited γ]
section
variable {w0 w : World} {g : Nat} {e : TypeId} {k : Nat} {f : γ → List Value} {rest : Array Value} {d : Array γ}
theorem SRow.holdsK (h : SRow w0 g e k f rest d w) : HoldsK f k w g 0 d := fun j hj => by
 rw [Nat.zero_add]
 refine ⟨h.blk.cell ?_, h.blk.thawed j⟩
 rw [Array.getElem?_append_left hj, Array.getElem?_eq_getElem hj, getElem!_pos (flatK f k d) j hj]
 rfl
theorem SRow.sorted (h : SRow w0 g e k f rest d w) {d' : Array γ} (hd : d'.size = d.size) (n : Nat) (os : Array Obj) : SRow w0 g e k f rest d' (sortWorldK f k w g 0 n d' os) := by
 have hF : (flatK f k d').size = (flatK f k d).size := by rw [size_flatK, size_flatK, hd]
 have hg := h.glt
 refine ⟨grown_trans h.gr ⟨rfl, rfl, rfl, by simp [sortWorldK, putRowK], fun q hq hne => ?_⟩, h.lt, ?_, h.fk⟩
 ·unfold sortWorldK putRowK
  rw [heap_grow_old _ _ (by simpa using hq)]
  have : g ≠ q := fun e => hne (by rw [e])
  simp [putRow, mapBlock, Sort.ahead, Array.getElem?_modify, this]
 have hb : w.heap[g]? = some (.cells (flatK f k d ++ rest) e) := h.blk
 show (sortWorldK f k w g 0 n d' os).heap[g]? = _
 unfold sortWorldK putRowK
 rw [heap_grow_old _ _ (by simpa using hg)]
 have e1 : putCells id 0 (flatK f k d') (flatK f k d ++ rest) = flatK f k d' ++ rest := by
  apply Array.ext
  ·simp [putCells, hd]
  intro j h1 h2
  by_cases hj : j < (flatK f k d').size
  ·rw [Array.getElem_append_left hj]
   simp only [putCells, Array.getElem_mapIdx, Nat.zero_le, Nat.zero_add, hj, and_self, if_true, Nat.sub_zero]
   exact getElem!_pos _ _ _
  rw [Array.getElem_append_right jo]
  simp only [putCells, Array.getElem_mapIdx, Nat.zero_le, Nat.zero_add, hj, and_false, if_false]
  rw [Array.getElem_append_right jo]
  simp only [hF]
 simp [putRow, mapBlock, Sort.ahead, Array.getElem?_modify, hb, onCells, e1]
end
end Go.Proofs.YtgdamggkaklhjaaDoor.BH
end
section
namespace Go.Proofs.YtgdamggkaklhjaaDoor
open Go.RowKit BH Go.ChangeShapes Go.WideShapes Go.Deep
set_option maxRecDepth 100000

theorem laid_head {P : Program} {W : World} {name : String} {d : DataW Unit} {rest : List (String × DataW Unit)} {g : Nat} {t : TypeId}
  (hg : P.globalNamed name = some g) (hty : (P.globals[g]?).map (·.type) = some t) (h : laidMet P ((name, d) :: rest) W) :
  ∃ cs fuel q, W.var? P name = some cs ∧ DataW.trod (fun _ => ()) P W 0 (fun _ => true) false fuel t cs.toList = some (d, q) := by
 obtain ⟨ps, ⟨g', t', cs, fuel, p, q, H1, H2, H0, hd, _, _⟩, _⟩ := h
 obtain rfl := Option.some.inj (hg.symm.trans H1)
 obtain rfl := Option.some.inj (hty.symm.trans H2)
 exact ⟨cs, fuel, _, H0, hd⟩
theorem gRows : Tryd.prog.globalNamed "bolthole/isa.rows" = some 1 := by kernel_rfl
theorem gRowsType : (Tryd.prog.globals[1]?).map (·.type) = some 124 := by kernel_rfl
theorem gSizes : Tryd.prog.globalNamed "bolthole/isa.sizes" = some 0 := by kernel_rfl
theorem gSizesType : (Tryd.prog.globals[0]?).map (·.type) = some 120 := by kernel_rfl
theorem cells_row : Tryd.prog.cellsOf 123 = 3 := by kernel_rfl
theorem cells_u8' : Tryd.prog.cellsOf 5 = 1 := by kernel_rfl
theorem cells_shape : Tryd.prog.cellsOf 121 = 1 := by kernel_rfl
theorem cells_i : Tryd.prog.cellsOf 3 = 1 := by kernel_rfl

theorem row_cells {H : Type} {enc : TypeId × Value → H} {w : World} {base : Nat} {sp : Nat → Bool} {hd : Bool} {fuel : Nat} {cs : List Value} {ds : List (DataW H)} {p : List MemPlace}
  (h : DataW.trod enc Tryd.prog w base sp hd fuel 124 cs = some (.agg ds, p)) (i : Nat) (hi : i < 25) (a b c : Int) (hds : ds[i]? = some (.agg [.lit (.int .u8 a), .lit (.int .u8 b), .lit (.int .i64 c)])) :
  cs[i * 3]? = some (.int .u8 a) ∧ cs[i * 3 + 1]? = some (.int .u8 b) ∧ cs[i * 3 + 2]? = some (.int .i64 c) := by
 obtain ⟨xs, m, -, hx, hl, hn, H1⟩ := DataW.trod_array Tryd.underlying124 h
 simp only [Prod.mk.injEq, DataW.agg.injEq] at hx
 obtain ⟨rfl, -⟩ := hx
 have he := H1 i hi
 rw [List.getElem?_map] at hds
 obtain ⟨y, hy, H0⟩ := Option.map_eq_some_iff.1 hds
 rw [hy, cells_row] at he
 obtain ⟨y0, y1, y2, n, H2, H3, h0, h1, h2⟩ := trod_struct3 Tryd.underlying123 he
 subst H2
 simp only [DataW.agg.injEq, List.cons.injEq, and_true] at H0
 obtain ⟨e0, e1, e2⟩ := H0
 simp only [cells_u8', cells_shape] at h0 h1 h2
 obtain ⟨z0, q0, r0, -⟩ := DataW.trod_int Tryd.underlying5 h0
 obtain ⟨z1, q1, r1, -⟩ := DataW.trod_int Tryd.underlying5 h1
 obtain ⟨z2, q2, r2, -⟩ := DataW.trod_int Tryd.underlying121 h2
 rw [r0] at e0
 rw [r1] at e1
 rw [r2] at e2
 simp only [DataW.lit.injEq, Lit.int.injEq, true_and] at e0 e1 e2
 subst e0 e1 e2
 have key : ∀ (k : Nat) (v : Value), (((cs.drop (i * 3)).take 3).drop k).take 1 = [v] → cs[i * 3 + k]? = some v := by
  intro k v hv
  have h0 := congrArg (·[0]?) hv
  simp only [List.getElem?_cons_zero, List.getElem?_take, Nat.lt_one_iff, if_true, List.getElem?_drop, Nat.add_zero] at h0
  split at h0
  ·exact h0
  cases h0
 exact ⟨key 0 _ q0, key 1 _ q1, key 2 _ q2⟩

theorem tab_of_laid {W : World} {rest : List (String × DataW Unit)} (h : laidMet Tryd.prog (("bolthole/isa.rows", Rows.laid_bolthole_isa_rows) :: rest) W) : Tab W := by
 obtain ⟨cs, H2, q, H1, hd⟩ := laid_head gRows gRowsType h
 intro k hk
 have H0 : ∀ k, k < 25 → cs.toList[k * 3]? = some (.int .u8 (opT k)) ∧ cs.toList[k * 3 + 1]? = some (.int .u8 (longT k)) ∧ cs.toList[k * 3 + 2]? = some (.int .i64 (shapeT k)) := by
  intro k hk
  refine row_cells hd k hk _ _ _ ?_
  match k, hk with
  | 0, _ => rfl
  | 1, _ => rfl
  | 2, _ => rfl
  | 3, _ => rfl
  | 4, _ => rfl
  | 5, _ => rfl
  | 6, _ => rfl
  | 7, _ => rfl
  | 8, _ => rfl
  | 9, _ => rfl
  | 10, _ => rfl
  | 11, _ => rfl
  | 12, _ => rfl
  | 13, _ => rfl
  | 14, _ => rfl
  | 15, _ => rfl
  | 16, _ => rfl
  | 17, _ => rfl
  | 18, _ => rfl
  | 19, _ => rfl
  | 20, _ => rfl
  | 21, _ => rfl
  | 22, _ => rfl
  | 23, _ => rfl
  | 24, _ => rfl
  | n + 25, hk => exact absurd hk jo
 have hc : ∀ j v, cs.toList[j]? = some v → W.cell? ⟨1, j, none⟩ = some v := by intro j v hj; rw [World.var?_cell gRows H1 j]; simpa using hj
 exact ⟨hc _ _ (H0 k hk).1, hc _ _ (H0 k hk).2.1, hc _ _ (H0 k hk).2.2⟩
end Go.Proofs.YtgdamggkaklhjaaDoor
end
