/-
  slices.SortFunc of tally.Map at a slice of the call's own whose edges have different places: they are sorted by their places then.
-/
import Derived.Test.YtofaghcnkppmbaaTalMapP
import Derived.Test.YtofaghcnkppmbaaSortOwn
import Derived.Test.YtofaghcnkppmbaaEdRow
import Derived.Test.YtofaghcnkppmbaaShelf2
import Derived.OwnWalk
import Derived.Lib.Hide
namespace Go.Proofs.Ytofaghcnkppmbaa
open Go.RowKit Go.Sort Go.Shelf BH
set_option maxHeartbeats 100000000
set_option maxRecDepth 100000
def edM (m : SumM) (p : Int × Int) : Ed := ⟨p.1, p.2, (m p).getD 0⟩
def cmpP (p q : Int × Int) : Int := if p.1 = q.1 then p.2 - q.2 else p.1 - q.1
def wfK (p : Int × Int) : Prop := 0 ≤ p.1 ∧ p.1 < 4611686018427387904 ∧ 0 ≤ p.2 ∧ p.2 < 4611686018427387904
theorem cmpP_lt (p q : Int × Int) : decide (cmpP p q < 0) = kLt p q := by
  unfold cmpP kLt
  by_cases h : p.1 = q.1
  · rw [if_pos h]; simp [h]; omega
  · rw [if_neg h]; simp [h]; omega
theorem map2_any (F T C F2 T2 C2 : Int) (w : World) (h1 : wfK (F, T)) (h2 : wfK (F2, T2)) : Calls Try.prog 29 #[.agg #[.int .i64 F, .int .i64 T, .int .i64 C], .agg #[.int .i64 F2, .int .i64 T2, .int .i64 C2]] w fun e w' => e = .returned (.int .i64 (cmpP (F, T) (F2, T2))) ∧ Keeps w w' ∧ ∃ q os, w' = grow (w.drewN q) os := by
  unfold wfK at h1 h2
  simp only at h1 h2
  obtain ⟨a1, a2, a3, a4⟩ := h1
  obtain ⟨b1, b2, b3, b4⟩ := h2
  have wT : IntKind.i64.wrap (T - T2) = T - T2 := by rw [IntKind.wrap_i64]; omega
  have wF : IntKind.i64.wrap (F - F2) = F - F2 := by rw [IntKind.wrap_i64]; omega
  have g2 : ∀ o1 o2, ∃ q os, (w.alloc o1).alloc o2 = grow (w.drewN q) os := fun a b => ⟨0, #[a] ++ #[b], by rw [alloc_eq_grow, alloc_eq_grow, grow_grow]; rfl⟩
  have G2 := Lib.hid g2
  clear g2
  by_cases h : F = F2
  · have hc : cmpP (F, T) (F2, T2) = T - T2 := if_pos h
    have t0 : (F == F2) = true := by simpa using h
    rw [hc]
    clear hc h
    go_enter Try.func29, Try.ntmps29
    go_wp2_with fail
    go_ret
    exact ⟨rfl, ((Keeps.refl _).alloc _).alloc _, G2.out _ _⟩
  · have hc : cmpP (F, T) (F2, T2) = F - F2 := if_neg h
    have t0 : (F == F2) = false := by simpa using h
    rw [hc]
    clear hc h
    go_enter Try.func29, Try.ntmps29
    go_wp2_with fail
    go_ret
    exact ⟨rfl, ((Keeps.refl _).alloc _).alloc _, G2.out _ _⟩
abbrev KeyT : Type := { p : Int × Int // wfK p }
theorem sortEd_any {w : World} {base : Nat} {v : Value} (SM : SumM) {K : List (Int × Int)} (hb : ∀ p ∈ K, wfK p) (h : Own w base 44 3 ced v (K.map (edM SM))) (hm : K.length < 4611686018427387904) :
    Calls Try.prog 28 #[v, .func (.func 29) #[] #[]] w fun r w' => r = .returned (.tuple #[]) ∧ Own w' base 44 3 ced v ((K.mergeSort fun x y => !kLt y x).map (edM SM)) ∧ w.grownBy w' v.ownBlock := by
  obtain ⟨K', hK'⟩ : ∃ K' : List KeyT, K' = K.attach.map (fun q => (⟨q.1, hb q.1 q.2⟩ : KeyT)) := ⟨_, rfl⟩
  have hv : K'.map (fun q => q.1) = K := by
    rw [hK', List.map_map]
    exact List.attach_map_subtype_val K
  have eo : ∀ (w : World) (L : List KeyT), Own w base 44 3 ced v ((L.map (fun q => q.1)).map (edM SM)) = Own w base 44 3 (fun q : KeyT => ced (edM SM q.1)) v L := fun w L => by
    unfold Own
    rw [List.length_map, List.length_map, List.flatMap_map, List.flatMap_map]
  rw [← hv, eo] at h
  have hlt : ∀ x y : KeyT, ltOf (fun x y : KeyT => cmpP x.1 y.1) x y = kLt x.1 y.1 := fun x y => cmpP_lt x.1 y.1
  have hS : SWO (ltOf fun x y : KeyT => cmpP x.1 y.1) :=
    { irrefl := fun x => by rw [hlt]; exact kLt_irrefl _
      trans := fun x y z h1 h2 => by rw [hlt] at *; exact kLt_trans h1 h2
      ntrans := fun x y z h1 h2 => by rw [hlt] at *; unfold kLt at *; simp at *; omega }
  have hT : ∀ x y : KeyT, ltOf (fun x y : KeyT => cmpP x.1 y.1) x y = false → ltOf (fun x y : KeyT => cmpP x.1 y.1) y x = false → x = y := fun x y h1 h2 => by
    rw [hlt] at h1 h2
    by_cases q : x.1 = y.1
    · exact Subtype.ext q
    · rcases kLt_total q with z | z
      · rw [z] at h1; cases h1
      · rw [z] at h2; cases h2
  have hq := Own.sortF Try.laysSortEd 3 (fun w => by rfl) (fun w => by rfl) (fun q : KeyT => ced (edM SM q.1)) (fun _ => rfl) (fun q => ced_one _) (fun x y : KeyT => cmpP x.1 y.1) hS hT 29 (enters_of Try.func29 (by kernel_rfl) rfl) (fun w x y => (map2_any _ _ _ _ _ _ w x.2 y.2).mono fun e w' ⟨h1, _, h3⟩ => ⟨h1, h3⟩) h (by rw [← hv, List.length_map] at hm; exact hm)
  refine Calls.mono hq fun r w' ⟨h1, h2, h3⟩ => ⟨h1, ?_, h3⟩
  rw [← eo] at h2
  rw [← hv]
  have e2 : (K'.mergeSort fun x y => !(ltOf fun x y : KeyT => cmpP x.1 y.1) y x).map (fun q => q.1) = (K'.map (fun q => q.1)).mergeSort fun x y => !kLt y x :=
    List.map_mergeSort fun a _ b _ => by rw [hlt]
  rw [← e2]
  exact h2
end Go.Proofs.Ytofaghcnkppmbaa
