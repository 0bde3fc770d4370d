/-
  Maps from ints to ints, from ints to bools, from pairs of ints to ints. No program is named here.
-/
import Derived.Test.YtjnhiiidcjajbaaGreatDoorMapF
namespace Go.Proofs.YtjnhiiidcjajbaaGreatDoor.BH
open Go.RowKit Go.Maps Go.WideShapes
set_option maxRecDepth 100000
variable {P : Program} {t k e : TypeId}
theorem mk_ii (ht : P.underlying t = some (.map k e)) (hk : P.underlying k = some (.int .i64)) (he : P.underlying e = some (.int .i64)) (hz : ∀ w, (zeroValue e).run P w = .ok (.int .i64 0) w) :
    MK P t k e (fun x : Int => .int .i64 x) wfI (fun c : Int => .int .i64 c) litI wfI 0 where
  K := int_keyed hk
  ht := ht
  key x hx := ⟨_, keyOf_int_mk hk hx⟩
  inv v kl h := by
    obtain ⟨x, rfl, _, hx⟩ := Maps.keyOf_int_inv hk h
    exact ⟨x, hx, rfl⟩
  inj x y h := by injection h
  val c hc := plainElem_int he hc
  vinv v y h := by
    obtain ⟨c, rfl, rfl, hc⟩ := plainElem_int_inv he h
    exact ⟨c, hc, rfl, rfl⟩
  linj c d h := by unfold litI at h; injection h with h; injection h
  zero := hz
  wz := wfI_of (by decide) (by decide)
def litB (c : Bool) : DataW Unit := .lit (.bool c)
theorem mk_ib (ht : P.underlying t = some (.map k e)) (hk : P.underlying k = some (.int .i64)) (he : P.underlying e = some .bool) (hz : ∀ w, (zeroValue e).run P w = .ok (.bool false) w) :
    MK P t k e (fun x : Int => .int .i64 x) wfI (fun c : Bool => .bool c) litB (fun _ => True) false where
  K := int_keyed hk
  ht := ht
  key x hx := ⟨_, keyOf_int_mk hk hx⟩
  inv v kl h := by
    obtain ⟨x, rfl, _, hx⟩ := Maps.keyOf_int_inv hk h
    exact ⟨x, hx, rfl⟩
  inj x y h := by injection h
  val c _ := plainElem_bool he c
  vinv v y h := by
    unfold plainElem at h
    rw [he] at h
    cases v <;> simp at h
    exact ⟨_, trivial, rfl, h.symm⟩
  linj c d h := by unfold litB at h; injection h with h; injection h
  zero := hz
  wz := trivial
def encP (x : Int × Int) : Value := .agg #[.int .i64 x.1, .int .i64 x.2]
def wfP (x : Int × Int) : Prop := wfI x.1 ∧ wfI x.2
theorem lits_int {d : Nat} {e2 : TypeId} (he2 : P.underlying e2 = some (.int .i64)) {v : Value} {ls : List Lit} (h : P.keyLits (d + 1) e2 [v] = some ls) : ∃ a, wfI a ∧ v = .int .i64 a ∧ ls = [.int .i64 a] := by
  unfold Program.keyLits at h
  rw [he2] at h
  cases v <;> simp at h
  obtain ⟨⟨rfl, hw⟩, rfl⟩ := h
  exact ⟨_, hw, rfl, rfl⟩
theorem lits_int_mk {d : Nat} {e2 : TypeId} (he2 : P.underlying e2 = some (.int .i64)) {a : Int} (ha : wfI a) : P.keyLits (d + 1) e2 [.int .i64 a] = some [.int .i64 a] := by
  unfold wfI at ha
  unfold Program.keyLits
  rw [he2]
  simp [ha]
theorem mk_pi {e2 : TypeId} {s : Nat} (K : Keyed P k) (ht : P.underlying t = some (.map k e)) (hk : P.underlying k = some (.array 2 e2)) (he2 : P.underlying e2 = some (.int .i64)) (hs : P.types.size = s + 1) (hkt : P.keyType k = true) (hck : P.cellsOf k = 2) (hce : P.cellsOf e2 = 1)
    (he : P.underlying e = some (.int .i64)) (hz : ∀ w, (zeroValue e).run P w = .ok (.int .i64 0) w) :
    MK P t k e encP wfP (fun c : Int => .int .i64 c) litI wfI 0 where
  K := K
  ht := ht
  key x hx := by
    obtain ⟨a, b⟩ := x
    obtain ⟨ha, hb⟩ := hx
    have hf : (encP (a, b)).formed P k = true := by
      show (match P.underlying k with | some (.struct _) | some (.array _ _) => (#[Value.int .i64 a, .int .i64 b] : Array Value).size == P.cellsOf k | _ => false) = true
      rw [hk, hck]
      rfl
    have hl : P.keyLits (P.types.size + 1) k (encP (a, b)).cells.toList = some [.int .i64 a, .int .i64 b] := by
      show P.keyLits (P.types.size + 1) k [.int .i64 a, .int .i64 b] = _
      unfold Program.keyLits
      rw [hk]
      simp only [List.length_cons, List.length_nil, hck, hce, if_true, Nat.mul_one, hs]
      show (([0, 1] : List Nat).mapM fun i => P.keyLits (s + 1) e2 ((([.int .i64 a, .int .i64 b] : List Value).drop i).take 1)).map List.flatten = _
      simp [lits_int_mk he2 ha, lits_int_mk he2 hb]
    refine ⟨.string (keyBytes [.int .i64 a, .int .i64 b]), ?_⟩
    unfold keyOf
    rw [hk]
    dsimp only
    rw [hkt, hf, hl]
    rfl
  inv v kl h := by
    unfold keyOf at h
    rw [hk] at h
    dsimp only at h
    split at h
    · rename_i hc
      obtain ⟨-, hf⟩ := (Bool.and_eq_true _ _).mp hc
      obtain ⟨cs, rfl⟩ : ∃ cs, v = .agg cs := by
        cases v <;> first | exact ⟨_, rfl⟩ | (exfalso; simp [Value.formed, hk] at hf)
      have hsz : cs.size = 2 := by
        have h1 : (match P.underlying k with | some (.struct _) | some (.array _ _) => cs.size == P.cellsOf k | _ => false) = true := hf
        rw [hk, hck] at h1
        simpa using h1
      obtain ⟨x0, x1, rfl⟩ : ∃ x0 x1, cs = #[x0, x1] := by
        obtain ⟨l⟩ := cs
        match l, hsz with
        | [x, y], _ => exact ⟨x, y, rfl⟩
      obtain ⟨ls, hls, -⟩ := Option.map_eq_some_iff.1 h
      have h2 : P.keyLits (P.types.size + 1) k [x0, x1] = some ls := hls
      unfold Program.keyLits at h2
      rw [hk] at h2
      simp only [List.length_cons, List.length_nil, hck, hce, if_true, Nat.mul_one, hs] at h2
      have h3 : (([0, 1] : List Nat).mapM fun i => P.keyLits (s + 1) e2 ((([x0, x1] : List Value).drop i).take 1)).map List.flatten = some ls := h2
      obtain ⟨l2, hl2, -⟩ := Option.map_eq_some_iff.1 h3
      simp only [List.mapM_cons, List.mapM_nil, List.drop_zero, List.take_succ_cons, List.take_zero, List.drop_succ_cons, Option.bind_eq_bind, Option.bind_eq_some_iff] at hl2
      obtain ⟨y0, hy0, y1, ⟨z, hz1, _⟩, _⟩ := hl2
      obtain ⟨a, ha, rfl, -⟩ := lits_int he2 hy0
      obtain ⟨b, hb, rfl, -⟩ := lits_int he2 hz1
      exact ⟨(a, b), ⟨ha, hb⟩, rfl⟩
    · cases h
  inj x y h := by
    unfold encP at h
    injection h with h
    have h2 := congrArg Array.toList h
    simp at h2
    exact Prod.ext h2.1 h2.2
  val c hc := plainElem_int he hc
  vinv v y h := by
    obtain ⟨c, rfl, rfl, hc⟩ := plainElem_int_inv he h
    exact ⟨c, hc, rfl, rfl⟩
  linj c d h := by unfold litI at h; injection h with h; injection h
  zero := hz
  wz := wfI_of (by decide) (by decide)
end Go.Proofs.YtjnhiiidcjajbaaGreatDoor.BH
