/-
  What the row's list of package-level variables gives: the tables isa.rows and isa.sizes hold what their initialisers lay.
-/
import Derived.Test.YtpgifkhgefbnfaaDoorRows
import Derived.Test.YtpgifkhgefbnfaaDoorIsa0
import Derived.Test.YtpgifkhgefbnfaaDoorLift
import Derived.Lib.LaidTab
import Derived.Deep.Strs
namespace Go.Proofs.YtpgifkhgefbnfaaDoor
open Go.RowKit BH Go.ChangeShapes Go.WideShapes Go.Deep
set_option maxRecDepth 100000

theorem laid_head {P : Program} {W : World} {name : String} {d : DataW Unit} {rest : List (String × DataW Unit)} {g : Nat} {t : TypeId}
    (hg : P.globalNamed name = some g) (hty : (P.globals[g]?).map (·.type) = some t) (h : laidMet P ((name, d) :: rest) W) :
    ∃ cs fuel q, W.var? P name = some cs ∧ DataW.trod (fun _ => ()) P W 0 (fun _ => true) false fuel t cs.toList = some (d, q) := by
  obtain ⟨ps, ⟨g', t', cs, fuel, p, q, hg', ht', hvar, hd, _, _⟩, _⟩ := h
  obtain rfl := Option.some.inj (hg.symm.trans hg')
  obtain rfl := Option.some.inj (hty.symm.trans ht')
  exact ⟨cs, fuel, _, hvar, hd⟩
theorem gRows : Tryd.prog.globalNamed "bolthole/isa.rows" = some 0 := by kernel_rfl
theorem gRowsType : (Tryd.prog.globals[0]?).map (·.type) = some 57 := by kernel_rfl
theorem gSizes : Tryd.prog.globalNamed "bolthole/isa.sizes" = some 1 := by kernel_rfl
theorem gSizesType : (Tryd.prog.globals[1]?).map (·.type) = some 58 := by kernel_rfl
theorem cells_row : Tryd.prog.cellsOf 56 = 3 := by kernel_rfl
theorem cells_rows : Tryd.prog.cellsOf 57 = 75 := by kernel_rfl
theorem cells_sizes : Tryd.prog.cellsOf 58 = 12 := by kernel_rfl
theorem cells_u8' : Tryd.prog.cellsOf 5 = 1 := by kernel_rfl
theorem cells_shape : Tryd.prog.cellsOf 54 = 1 := by kernel_rfl
theorem cells_i : Tryd.prog.cellsOf 3 = 1 := by kernel_rfl

theorem single_at {l : List Value} {j k i : Nat} {v : Value} (h : ((l.drop i).take j).drop k = v :: [] ∨ ∃ r, ((l.drop i).take j).drop k = v :: r) : l[i + k]? = some v := by
  have h0 : (((l.drop i).take j).drop k)[0]? = some v := by
    rcases h with h | ⟨r, h⟩ <;> rw [h] <;> rfl
  rw [List.getElem?_drop, Nat.add_zero, List.getElem?_take] at h0
  split at h0
  · rwa [List.getElem?_drop] at h0
  · cases h0

/-- one row of isa.rows, read off its reading as data -/
theorem row_cells {H : Type} {enc : TypeId × Value → H} {w : World} {base : Nat} {sp : Nat → Bool} {hd : Bool} {fuel : Nat} {cs : List Value} {ds : List (DataW H)} {p : List MemPlace}
    (h : DataW.trod enc Tryd.prog w base sp hd fuel 57 cs = some (.agg ds, p)) (i : Nat) (hi : i < 25) (a b c : Int) (hds : ds[i]? = some (.agg [.lit (.int .u8 a), .lit (.int .u8 b), .lit (.int .i64 c)])) :
    cs[i * 3]? = some (.int .u8 a) ∧ cs[i * 3 + 1]? = some (.int .u8 b) ∧ cs[i * 3 + 2]? = some (.int .i64 c) := by
  obtain ⟨xs, m, -, hx, hl, hn, hel⟩ := DataW.trod_array Tryd.underlying57 h
  simp only [Prod.mk.injEq, DataW.agg.injEq] at hx
  obtain ⟨rfl, -⟩ := hx
  have he := hel i hi
  rw [List.getElem?_map] at hds
  obtain ⟨y, hy, hyd⟩ := Option.map_eq_some_iff.1 hds
  rw [hy, cells_row] at he
  obtain ⟨y0, y1, y2, n, hy3, hlen, h0, h1, h2⟩ := trod_struct3 Tryd.underlying56 he
  subst hy3
  simp only [DataW.agg.injEq, List.cons.injEq, and_true] at hyd
  obtain ⟨e0, e1, e2⟩ := hyd
  simp only [cells_u8', cells_shape] at h0 h1 h2
  obtain ⟨z0, q0, r0, -⟩ := DataW.trod_int Tryd.underlying5 h0
  obtain ⟨z1, q1, r1, -⟩ := DataW.trod_int Tryd.underlying5 h1
  obtain ⟨z2, q2, r2, -⟩ := DataW.trod_int Tryd.underlying54 h2
  rw [r0] at e0
  rw [r1] at e1
  rw [r2] at e2
  simp only [DataW.lit.injEq, Lit.int.injEq, true_and] at e0 e1 e2
  subst e0 e1 e2
  have key : ∀ (k : Nat) (v : Value), (((cs.drop (i * 3)).take 3).drop k).take 1 = [v] → cs[i * 3 + k]? = some v := by
    intro k v hv
    have h0 := congrArg (·[0]?) hv
    simp only [List.getElem?_cons_zero, List.getElem?_take, Nat.lt_one_iff, if_true, List.getElem?_drop, Nat.add_zero] at h0
    split at h0
    · exact h0
    · cases h0
  exact ⟨key 0 _ q0, key 1 _ q1, key 2 _ q2⟩

theorem tab_of_laid {W : World} {rest : List (String × DataW Unit)} (h : laidMet Tryd.prog (("bolthole/isa.rows", Rows.laid_bolthole_isa_rows) :: rest) W) : Tab W := by
  obtain ⟨cs, fuel, q, hvar, hd⟩ := laid_head gRows gRowsType h
  intro k hk
  have hrow : ∀ k, k < 25 → cs.toList[k * 3]? = some (.int .u8 (opT k)) ∧ cs.toList[k * 3 + 1]? = some (.int .u8 (longT k)) ∧ cs.toList[k * 3 + 2]? = some (.int .i64 (shapeT k)) := by
    intro k hk
    refine row_cells hd k hk _ _ _ ?_
    match k, hk with
    | 0, _ => rfl
    | 1, _ => rfl
    | 2, _ => rfl
    | 3, _ => rfl
    | 4, _ => rfl
    | 5, _ => rfl
    | 6, _ => rfl
    | 7, _ => rfl
    | 8, _ => rfl
    | 9, _ => rfl
    | 10, _ => rfl
    | 11, _ => rfl
    | 12, _ => rfl
    | 13, _ => rfl
    | 14, _ => rfl
    | 15, _ => rfl
    | 16, _ => rfl
    | 17, _ => rfl
    | 18, _ => rfl
    | 19, _ => rfl
    | 20, _ => rfl
    | 21, _ => rfl
    | 22, _ => rfl
    | 23, _ => rfl
    | 24, _ => rfl
    | n + 25, hk => exact absurd hk (by omega)
  have hc : ∀ j v, cs.toList[j]? = some v → W.cell? ⟨0, j, none⟩ = some v := by
    intro j v hj
    rw [World.var?_cell gRows hvar j]
    simpa using hj
  exact ⟨hc _ _ (hrow k hk).1, hc _ _ (hrow k hk).2.1, hc _ _ (hrow k hk).2.2⟩
end Go.Proofs.YtpgifkhgefbnfaaDoor
