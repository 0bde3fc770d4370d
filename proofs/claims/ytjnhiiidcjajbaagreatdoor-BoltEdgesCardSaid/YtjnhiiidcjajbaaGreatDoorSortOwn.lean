/-
  The library's slices.SortFunc at a slice of the call's own, whose elements are of some cells each: under a total order it holds core's mergeSort then. No program is named here.
-/
import Derived.Test.YtjnhiiidcjajbaaGreatDoorSortK
import Derived.Shelf.SlSortCmp.NoneTotal
namespace Go.Proofs.YtjnhiiidcjajbaaGreatDoor.BH
open Go.RowKit Go.Sort Go.Shelf
set_option maxRecDepth 100000
variable {P : Program} {ρ : Ren}
theorem Own.sortF {γ : Type} (L : SlLaysF0.n6 P ρ) (k : Nat) (aE : ∀ w, (isAgg (ρ.t 24)).run P w = .ok true w) (zE : ∀ w, (Go.sizeOf (ρ.t 24)).run P w = .ok k w) (f : γ → List Value) (hk : ∀ x, (f x).length = k) (h1 : ∀ x, ∀ v ∈ f x, v.oneCell' = true)
    (cf : γ → γ → Int) (hO : SWO (ltOf cf)) (hT : ∀ x y, ltOf cf x y = false → ltOf cf y x = false → x = y) (fn : Nat) (eg : ∀ args w, (callFunc fn args).run P w = .ok (.enter fn args) w)
    (hc : ∀ w x y, Calls P fn #[.agg (f x).toArray, .agg (f y).toArray] w fun e w' => e = .returned (.int .i64 (cf x y)) ∧ ∃ q os, w' = grow (w.drewN q) os)
    {w : World} {base : Nat} {e : TypeId} {v : Value} {l : List γ} (h : Own w base e k f v l) (hm : l.length < 4611686018427387904) :
    Calls P (ρ.f 6) #[v, .func (.func fn) #[] #[]] w fun r w' => r = .returned (.tuple #[]) ∧ Own w' base e k f v (l.mergeSort fun x y => !(ltOf cf) y x) ∧ w.grownBy w' v.ownBlock := by
  cases l with
  | nil =>
    rw [List.mergeSort_nil]
    have h0 := h
    rcases h.2 with ⟨rfl, _⟩ | ⟨g, cap, cur, rfl, _⟩
    · exact (AnyF.slices_SortFunc_none L none 0 _ w).mono fun r w' ⟨he, hw⟩ => ⟨he, hw ▸ h0, hw ▸ (Keeps.refl w).grown _⟩
    · exact (AnyF.slices_SortFunc_none L (some ⟨g, 0, none⟩) cap _ w).mono fun r w' ⟨he, hw⟩ => ⟨he, hw ▸ h0, hw ▸ (Keeps.refl w).grown _⟩
  | cons x0 r0 =>
    haveI : Inhabited γ := ⟨x0⟩
    obtain ⟨l, hl⟩ : ∃ l, l = x0 :: r0 := ⟨_, rfl⟩
    rw [← hl] at h hm ⊢
    have hv : v ≠ .slice none 0 0 := fun q => by
      rcases h.2 with ⟨_, h0⟩ | ⟨g, cap, cur, q2, _⟩
      · rw [hl] at h0; simp at h0
      · rw [q] at q2; cases q2
    obtain ⟨g, cap, rest, rfl, hb, hn, hcm, hr, hback⟩ := h.srow hk hv
    have hsz : l.toArray.size = l.length := by simp
    have hq := AnyQ.slices_SortFunc_total L k aE zE f hk h1 cf hO fn #[] g 0 cap l.toArray w eg (fun m os dk _ x y => hc _ x y) hr.holdsK hr.glt (by rw [hsz]; exact hm) hT
    rw [hsz] at hq
    refine hq.mono fun r w' ⟨he, n, os, hw⟩ => ?_
    have hd : (l.toArray.toList.mergeSort fun x y => !(ltOf cf) y x).toArray.size = l.length := by simp
    have hs := hr.sorted (d' := (l.toArray.toList.mergeSort fun x y => !(ltOf cf) y x).toArray) (by rw [hd, hsz]) n os
    rw [← hw] at hs
    obtain ⟨o1, o2⟩ := hback _ w' hd hs
    exact ⟨he, o1, o2⟩
end Go.Proofs.YtjnhiiidcjajbaaGreatDoor.BH
