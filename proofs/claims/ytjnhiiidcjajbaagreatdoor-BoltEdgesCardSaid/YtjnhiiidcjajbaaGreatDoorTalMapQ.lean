/-
  slices.SortFunc of tally.Map at a slice of the call's own whose edges have different places: they are sorted by their places then.
  Where an edge's count goes in the document's list. No program is named here.
-/
import Derived.Test.YtjnhiiidcjajbaaGreatDoorTalMapP
import Derived.Test.YtjnhiiidcjajbaaGreatDoorSortOwn
import Derived.Test.YtjnhiiidcjajbaaGreatDoorSortC
import Derived.Test.YtjnhiiidcjajbaaGreatDoorShelf2
import Derived.OwnWalk
import Derived.Lib.Hide
import Derived.Test.YtjnhiiidcjajbaaGreatDoorShf
section
namespace Go.Proofs.YtjnhiiidcjajbaaGreatDoor
open Go.RowKit Go.Sort Go.Shelf BH
set_option maxHeartbeats 100000000
set_option maxRecDepth 100000
def edM (m : SumM) (p : Int × Int) : Ed := ⟨p.1, p.2, (m p).getD 0⟩
def cmpP (p q : Int × Int) : Int := if p.1 = q.1 then p.2 - q.2 else p.1 - q.1
def wfK (p : Int × Int) : Prop := 0 ≤ p.1 ∧ p.1 < 4611686018427387904 ∧ 0 ≤ p.2 ∧ p.2 < 4611686018427387904
theorem cmpP_lt (p q : Int × Int) : decide (cmpP p q < 0) = kLt p q := by
  unfold cmpP kLt
  by_cases h : p.1 = q.1
  · rw [if_pos h]; simp [h]; omega
  · rw [if_neg h]; simp [h]; omega
theorem map2_any (F T C F2 T2 C2 : Int) (w : World) (h1 : wfK (F, T)) (h2 : wfK (F2, T2)) : Calls Tryz.prog 36 #[.agg #[.int .i64 F, .int .i64 T, .int .i64 C], .agg #[.int .i64 F2, .int .i64 T2, .int .i64 C2]] w fun e w' => e = .returned (.int .i64 (cmpP (F, T) (F2, T2))) ∧ Keeps w w' ∧ ∃ q os, w' = grow (w.drewN q) os := by
  unfold wfK at h1 h2
  simp only at h1 h2
  obtain ⟨a1, a2, a3, a4⟩ := h1
  obtain ⟨b1, b2, b3, b4⟩ := h2
  have wT : IntKind.i64.wrap (T - T2) = T - T2 := by rw [IntKind.wrap_i64]; omega
  have wF : IntKind.i64.wrap (F - F2) = F - F2 := by rw [IntKind.wrap_i64]; omega
  have g2 : ∀ o1 o2, ∃ q os, (w.alloc o1).alloc o2 = grow (w.drewN q) os := fun a b => ⟨0, #[a] ++ #[b], by rw [alloc_eq_grow, alloc_eq_grow, grow_grow]; rfl⟩
  have G2 := Lib.hid g2
  clear g2
  by_cases h : F = F2
  · have hc : cmpP (F, T) (F2, T2) = T - T2 := if_pos h
    have t0 : (F == F2) = true := by simpa using h
    rw [hc]
    clear hc h
    go_enter Tryz.func36, Tryz.ntmps36
    go_wp2_with fail
    go_ret
    exact ⟨rfl, ((Keeps.refl _).alloc _).alloc _, G2.out _ _⟩
  · have hc : cmpP (F, T) (F2, T2) = F - F2 := if_neg h
    have t0 : (F == F2) = false := by simpa using h
    rw [hc]
    clear hc h
    go_enter Tryz.func36, Tryz.ntmps36
    go_wp2_with fail
    go_ret
    exact ⟨rfl, ((Keeps.refl _).alloc _).alloc _, G2.out _ _⟩
abbrev KeyT : Type := { p : Int × Int // wfK p }
theorem sortEd_any {w : World} {base : Nat} {v : Value} (SM : SumM) {K : List (Int × Int)} (hb : ∀ p ∈ K, wfK p) (h : Own w base 43 3 ced v (K.map (edM SM))) (hm : K.length < 4611686018427387904) :
    Calls Tryz.prog 35 #[v, .func (.func 36) #[] #[]] w fun r w' => r = .returned (.tuple #[]) ∧ Own w' base 43 3 ced v ((K.mergeSort fun x y => !kLt y x).map (edM SM)) ∧ w.grownBy w' v.ownBlock := by
  obtain ⟨K', hK'⟩ : ∃ K' : List KeyT, K' = K.attach.map (fun q => (⟨q.1, hb q.1 q.2⟩ : KeyT)) := ⟨_, rfl⟩
  have hv : K'.map (fun q => q.1) = K := by
    rw [hK', List.map_map]
    exact List.attach_map_subtype_val K
  have eo : ∀ (w : World) (L : List KeyT), Own w base 43 3 ced v ((L.map (fun q => q.1)).map (edM SM)) = Own w base 43 3 (fun q : KeyT => ced (edM SM q.1)) v L := fun w L => by
    unfold Own
    rw [List.length_map, List.length_map, List.flatMap_map, List.flatMap_map]
  rw [← hv, eo] at h
  have hlt : ∀ x y : KeyT, ltOf (fun x y : KeyT => cmpP x.1 y.1) x y = kLt x.1 y.1 := fun x y => cmpP_lt x.1 y.1
  have hS : SWO (ltOf fun x y : KeyT => cmpP x.1 y.1) :=
    { irrefl := fun x => by rw [hlt]; exact kLt_irrefl _
      trans := fun x y z h1 h2 => by rw [hlt] at *; exact kLt_trans h1 h2
      ntrans := fun x y z h1 h2 => by rw [hlt] at *; unfold kLt at *; simp at *; omega }
  have hT : ∀ x y : KeyT, ltOf (fun x y : KeyT => cmpP x.1 y.1) x y = false → ltOf (fun x y : KeyT => cmpP x.1 y.1) y x = false → x = y := fun x y h1 h2 => by
    rw [hlt] at h1 h2
    by_cases q : x.1 = y.1
    · exact Subtype.ext q
    · rcases kLt_total q with z | z
      · rw [z] at h1; cases h1
      · rw [z] at h2; cases h2
  have hq := Own.sortF Tryz.laysSortEd 3 (fun w => by rfl) (fun w => by rfl) (fun q : KeyT => ced (edM SM q.1)) (fun _ => rfl) (fun q => ced_one _) (fun x y : KeyT => cmpP x.1 y.1) hS hT 36 (enters_of Tryz.func36 (by kernel_rfl) rfl) (fun w x y => (map2_any _ _ _ _ _ _ w x.2 y.2).mono fun e w' ⟨h1, _, h3⟩ => ⟨h1, h3⟩) h (by rw [← hv, List.length_map] at hm; exact hm)
  refine Calls.mono hq fun r w' ⟨h1, h2, h3⟩ => ⟨h1, ?_, h3⟩
  rw [← eo] at h2
  rw [← hv]
  have e2 : (K'.mergeSort fun x y => !(ltOf fun x y : KeyT => cmpP x.1 y.1) y x).map (fun q => q.1) = (K'.map (fun q => q.1)).mergeSort fun x y => !kLt y x :=
    List.map_mergeSort fun a _ b _ => by rw [hlt]
  rw [← e2]
  exact h2
end Go.Proofs.YtjnhiiidcjajbaaGreatDoor
end
section
namespace Go.Proofs.YtjnhiiidcjajbaaGreatDoor
open BH
set_option maxRecDepth 100000
/-- the first place whose key is not less -/
def posD (p : Int × Int) : List Ed → Nat
  | [] => 0
  | e :: r => if kLt (keyE e) p = true then posD p r + 1 else 0
theorem posD_le (p : Int × Int) : ∀ D, posD p D ≤ D.length
  | [] => Nat.le_refl _
  | e :: r => by
    have := posD_le p r
    unfold posD
    split <;> simp only [List.length_cons] <;> omega
theorem posD_is (p : Int × Int) : ∀ (D : List Ed) (q : Nat), q ≤ D.length → (∀ i, i < q → kLt (keyE (nth D i)) p = true) → (q < D.length → kLt (keyE (nth D q)) p = false) → posD p D = q
  | [], q, h, _, _ => by simp at h; rw [h]; rfl
  | e :: r, 0, _, _, h2 => by
    have h := h2 (by simp)
    unfold posD
    have e0 : nth (e :: r) 0 = e := rfl
    rw [e0] at h
    rw [h]
    rfl
  | e :: r, q + 1, h, h1, h2 => by
    have e0 : nth (e :: r) 0 = e := rfl
    have h0 := h1 0 (by omega)
    rw [e0] at h0
    unfold posD
    rw [h0, if_pos rfl]
    congr 1
    exact posD_is p r q (by simp at h; omega) (fun i hi => h1 (i + 1) (by omega)) (fun hq => h2 (by simp; omega))
theorem addD_pos (p : Int × Int) (c : Int) : ∀ D : List Ed, addD p c D = if posD p D < D.length ∧ keyE (nth D (posD p D)) = p then D.set (posD p D) ⟨p.1, p.2, capS ((nth D (posD p D)).Count + c)⟩ else putW D ⟨p.1, p.2, c⟩ (posD p D)
  | [] => by simp [addD, posD, putW]
  | e :: r => by
    unfold addD posD
    by_cases h : kLt (keyE e) p = true
    · rw [if_pos h, if_pos h, addD_pos p c r]
      have e1 : nth (e :: r) (posD p r + 1) = nth r (posD p r) := rfl
      rw [e1]
      by_cases hc : posD p r < r.length ∧ keyE (nth r (posD p r)) = p
      · rw [if_pos hc, if_pos ⟨by simp; omega, hc.2⟩]
        rfl
      · rw [if_neg hc, if_neg (fun q => hc ⟨by have := q.1; simp at this; omega, q.2⟩)]
        rfl
    · rw [if_neg h, if_neg h]
      have e0 : nth (e :: r) 0 = e := rfl
      rw [e0]
      by_cases hk : keyE e = p
      · rw [if_pos hk, if_pos ⟨by simp, hk⟩]
        rfl
      · rw [if_neg hk, if_neg (fun q => hk q.2)]
        rfl
theorem addD_len (p : Int × Int) (c : Int) (D : List Ed) : (addD p c D).length ≤ D.length + 1 := by
  rw [addD_pos]
  have := posD_le p D
  split
  · rw [List.length_set]; omega
  · rw [putW_len _ _ _ this]; omega
theorem fold_len (f : Fl) (nx : Int → List Int) : ∀ (l : List Ed) (D : List Ed), (l.foldl (stepD f nx) D).length ≤ D.length + l.length
  | [], D => by simp
  | e :: r, D => by
    rw [List.foldl_cons]
    have h1 := fold_len f nx r (stepD f nx D e)
    have h2 : (stepD f nx D e).length ≤ D.length + 1 := by
      unfold stepD
      split
      · exact addD_len _ _ _
      · omega
    simp only [List.length_cons]
    omega
end Go.Proofs.YtjnhiiidcjajbaaGreatDoor
end
