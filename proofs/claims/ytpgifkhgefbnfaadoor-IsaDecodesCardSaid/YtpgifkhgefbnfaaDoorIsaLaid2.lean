/-
  What the row's list of package-level variables gives, where isa.sizes stands second in it: the table of sizes.
-/
import Derived.Test.YtpgifkhgefbnfaaDoorIsaLaid
import Derived.Test.YtpgifkhgefbnfaaDoorIsaSize
namespace Go.Proofs.YtpgifkhgefbnfaaDoor
open Go.RowKit BH Go.ChangeShapes Go.WideShapes Go.Deep
set_option maxRecDepth 100000

theorem laid_second {P : Program} {W : World} {n1 name : String} {d1 d : DataW Unit} {rest : List (String × DataW Unit)} {g : Nat} {t : TypeId}
    (hg : P.globalNamed name = some g) (hty : (P.globals[g]?).map (·.type) = some t) (h : laidMet P ((n1, d1) :: (name, d) :: rest) W) :
    ∃ cs fuel q, W.var? P name = some cs ∧ DataW.trod (fun _ => ()) P W 0 (fun _ => true) false fuel t cs.toList = some (d, q) := by
  obtain ⟨ps, ⟨g0, t0, cs0, fuel0, p0, q0, -, -, -, -, hrest, -⟩, _⟩ := h
  obtain ⟨g', t', cs, fuel, p, q, hg', ht', hvar, hd, _, _⟩ := hrest
  obtain rfl := Option.some.inj (hg.symm.trans hg')
  obtain rfl := Option.some.inj (hty.symm.trans ht')
  exact ⟨cs, fuel, _, hvar, hd⟩

theorem sizes_cells {H : Type} {enc : TypeId × Value → H} {w : World} {base : Nat} {sp : Nat → Bool} {hd : Bool} {fuel : Nat} {cs : List Value} {ds : List (DataW H)} {p : List MemPlace}
    (h : DataW.trod enc Tryd.prog w base sp hd fuel 58 cs = some (.agg ds, p)) (i : Nat) (hi : i < 12) (a : Int) (hds : ds[i]? = some (.lit (.int .i64 a))) :
    cs[i]? = some (.int .i64 a) := by
  obtain ⟨xs, m, -, hx, hl, hn, hel⟩ := DataW.trod_array Tryd.underlying58 h
  simp only [Prod.mk.injEq, DataW.agg.injEq] at hx
  obtain ⟨rfl, -⟩ := hx
  have he := hel i hi
  rw [List.getElem?_map] at hds
  obtain ⟨y, hy, hyd⟩ := Option.map_eq_some_iff.1 hds
  rw [hy, cells_i, Nat.mul_one] at he
  obtain ⟨z0, q0, r0, -⟩ := DataW.trod_int Tryd.underlying3 he
  rw [r0] at hyd
  simp only [DataW.lit.injEq, Lit.int.injEq, true_and] at hyd
  subst hyd
  have h0 := congrArg (·[0]?) q0
  simp only [List.getElem?_cons_zero, List.getElem?_take, Nat.lt_one_iff, if_true, List.getElem?_drop, Nat.add_zero] at h0
  exact h0

theorem siz_of_laid {W : World} {x : String × DataW Unit} {rest : List (String × DataW Unit)} (h : laidMet Tryd.prog (x :: ("bolthole/isa.sizes", Rows.laid_bolthole_isa_sizes) :: rest) W) : Siz W := by
  obtain ⟨cs, fuel, q, hvar, hd⟩ := laid_second gSizes gSizesType h
  intro s hs
  have hc : cs.toList[s]? = some (.int .i64 (sizeT s)) := by
    refine sizes_cells hd s hs _ ?_
    match s, hs with
    | 0, _ => rfl
    | 1, _ => rfl
    | 2, _ => rfl
    | 3, _ => rfl
    | 4, _ => rfl
    | 5, _ => rfl
    | 6, _ => rfl
    | 7, _ => rfl
    | 8, _ => rfl
    | 9, _ => rfl
    | 10, _ => rfl
    | 11, _ => rfl
    | n + 12, hs => exact absurd hs (by omega)
  rw [World.var?_cell gSizes hvar s]
  simpa using hc
end Go.Proofs.YtpgifkhgefbnfaaDoor
