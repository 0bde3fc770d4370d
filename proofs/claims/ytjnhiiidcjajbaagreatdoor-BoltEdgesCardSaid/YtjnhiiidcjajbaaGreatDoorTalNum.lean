/-
  Numbers of a tally in plain terms: what tally.number accepts and what the document's countIn accepts is the same.
-/
import Derived.Lib.AtoiAll
import Derived.Lib.ItoaMem
import Derived.Test.YtjnhiiidcjajbaaGreatDoorCore
namespace Go.Proofs.YtjnhiiidcjajbaaGreatDoor
open Go.Lib BH
set_option maxRecDepth 100000
def digB (c : UInt8) : Bool := decide (48 ≤ c.toNat ∧ c.toNat ≤ 57)
def valD : Nat → List UInt8 → Nat
  | acc, [] => acc
  | acc, c :: r => valD (acc * 10 + (c.toNat - 48)) r
/-- what the document's countIn answers -/
def countR (l : List UInt8) : Int :=
  if l.length = 0 ∨ l.length > 10 ∨ (nth l 0 = 48 ∧ l ≠ [48]) ∨ l.all digB = false ∨ 1073741824 < valD 0 l then -1 else (valD 0 l : Int)
/-- what tally.number answers; -1: false -/
def countC (l : List UInt8) : Int :=
  match atoiAll l with
  | .ok v => if itoa v = l ∧ 0 ≤ v ∧ v ≤ 1073741824 then v else -1
  | _ => -1
theorem valD_snoc (c : UInt8) : ∀ (l : List UInt8) (acc : Nat), valD acc (l ++ [c]) = valD acc l * 10 + (c.toNat - 48)
  | [], _ => rfl
  | _ :: r, _ => valD_snoc c r _
theorem valD_ge : ∀ (l : List UInt8) (acc : Nat), acc ≤ valD acc l
  | [], _ => Nat.le_refl _
  | c :: r, acc => by
    have := valD_ge r (acc * 10 + (c.toNat - 48))
    show acc ≤ valD (acc * 10 + (c.toNat - 48)) r
    omega
theorem dig_toNat {d : Nat} (h : d < 10) : (UInt8.ofNat (48 + d)).toNat = 48 + d := by
  rw [UInt8.toNat_ofNat']
  omega
theorem dig_ok {d : Nat} (h : d < 10) : digB (UInt8.ofNat (48 + d)) = true := by
  unfold digB
  rw [dig_toNat h]
  simp
  omega
theorem dec_all (u : Nat) : (decDigits u).all digB = true ∧ valD 0 (decDigits u) = u ∧ decDigits u ≠ [] ∧ (1 ≤ u → nth (decDigits u) 0 ≠ 48) := by
  induction u using Nat.strongRecOn with
  | _ u ih =>
    by_cases h : u < 10
    · rw [decDigits, dif_pos h]
      refine ⟨by rw [List.all_cons, dig_ok h]; rfl, ?_, by simp, fun h1 e => ?_⟩
      · show 0 * 10 + ((UInt8.ofNat (48 + u)).toNat - 48) = u
        rw [dig_toNat h]; omega
      · have e2 : (UInt8.ofNat (48 + u)).toNat = 48 := by
          have e3 : UInt8.ofNat (48 + u) = 48 := e
          rw [e3]; rfl
        rw [dig_toNat h] at e2
        omega
    · obtain ⟨h1, h2, h3, h4⟩ := ih (u / 10) (by omega)
      have hm : u % 10 < 10 := Nat.mod_lt _ (by decide)
      rw [decDigits, dif_neg h]
      refine ⟨?_, ?_, by simp, fun _ => ?_⟩
      · rw [List.all_append, h1, List.all_cons, dig_ok hm]; rfl
      · rw [valD_snoc, h2, dig_toNat hm]; omega
      · have hl := List.length_pos_iff.2 h3
        have e : nth (decDigits (u / 10) ++ [UInt8.ofNat (48 + u % 10)]) 0 = nth (decDigits (u / 10)) 0 := by
          rw [nth_eq _ _ (by simp), nth_eq _ _ hl, List.getElem_append_left hl]
        rw [e]
        exact h4 (by omega)
theorem dec_len {u : Nat} (h : u < 10 ^ 10) : (decDigits u).length ≤ 10 := by
  have key : ∀ (k u : Nat), u < 10 ^ (k + 1) → (decDigits u).length ≤ k + 1 := by
    intro k
    induction k with
    | zero =>
      intro u hu
      have h10 : u < 10 := by simpa using hu
      rw [decDigits, dif_pos h10]
      simp
    | succ k ih =>
      intro u hu
      by_cases h10 : u < 10
      · rw [decDigits, dif_pos h10]
        simp
      · rw [decDigits, dif_neg h10, List.length_append]
        have := ih (u / 10) (by rw [Nat.pow_succ] at hu; omega)
        simp
        omega
  exact key 9 u h
theorem snoc_ind' {α : Type} {P : List α → Prop} (h0 : P []) (h1 : ∀ l x, P l → P (l ++ [x])) : ∀ l, P l := by
  intro l
  have : ∀ m : List α, P m.reverse := fun m => by
    induction m with
    | nil => exact h0
    | cons a m ih => rw [List.reverse_cons]; exact h1 _ _ ih
  have := this l.reverse
  rwa [List.reverse_reverse] at this
theorem dec_uniq : ∀ l : List UInt8, l ≠ [] → l.all digB = true → ¬ (nth l 0 = 48 ∧ l ≠ [48]) → decDigits (valD 0 l) = l := by
  refine snoc_ind' (fun h => absurd rfl h) fun l c ih _ ha hz => ?_
  rw [List.all_append] at ha
  obtain ⟨ha1, ha2⟩ := (Bool.and_eq_true _ _).mp ha
  have hc : 48 ≤ c.toNat ∧ c.toNat ≤ 57 := by simpa [digB] using ha2
  have hcc : UInt8.ofNat (48 + (c.toNat - 48)) = c := by
    apply UInt8.toNat.inj
    rw [dig_toNat (by omega)]
    omega
  rw [valD_snoc]
  by_cases hl : l = []
  · subst hl
    show decDigits (0 * 10 + (c.toNat - 48)) = [c]
    rw [decDigits, dif_pos (by omega), show 0 * 10 + (c.toNat - 48) = c.toNat - 48 by omega, hcc]
  · have hlp := List.length_pos_iff.2 hl
    have h0 : nth (l ++ [c]) 0 = nth l 0 := by rw [nth_eq _ _ (by simp), nth_eq _ _ hlp, List.getElem_append_left hlp]
    have hn : nth l 0 ≠ 48 := fun e => hz ⟨by rw [h0, e], fun e2 => by
      have := congrArg List.length e2
      simp at this
      exact hl this⟩
    have hih := ih hl ha1 fun q => hn q.1
    have hv : 1 ≤ valD 0 l := by
      obtain ⟨d, r, rfl⟩ := List.exists_cons_of_ne_nil hl
      have hd : 48 ≤ d.toNat ∧ d.toNat ≤ 57 := by
        rw [List.all_cons] at ha1
        have := ((Bool.and_eq_true _ _).mp ha1).1
        simpa [digB] using this
      have hd2 : d.toNat ≠ 48 := fun e => hn (by
        show d = 48
        apply UInt8.toNat.inj
        rw [e]; rfl)
      have := valD_ge r (0 * 10 + (d.toNat - 48))
      show 1 ≤ valD (0 * 10 + (d.toNat - 48)) r
      omega
    rw [decDigits, dif_neg (by omega), show (valD 0 l * 10 + (c.toNat - 48)) / 10 = valD 0 l by omega, show (valD 0 l * 10 + (c.toNat - 48)) % 10 = c.toNat - 48 by omega, hih, hcc]
theorem parse_dig : ∀ (l : List UInt8) (acc : Nat), l.all digB = true → valD acc l < 18446744073709551616 → parseUint10 acc l = .ok (valD acc l)
  | [], _, _, _ => rfl
  | c :: r, acc, ha, hv => by
    rw [List.all_cons] at ha
    obtain ⟨h1, h2⟩ := (Bool.and_eq_true _ _).mp ha
    have hc : 48 ≤ c.toNat ∧ c.toNat ≤ 57 := by simpa [digB] using h1
    have hv' : valD (acc * 10 + (c.toNat - 48)) r < 18446744073709551616 := hv
    have hge := valD_ge r (acc * 10 + (c.toNat - 48))
    unfold parseUint10
    rw [if_pos hc, if_neg (by omega), if_neg (by omega)]
    exact parse_dig r _ h2 hv'
theorem count_dec {u : Nat} (h : u ≤ 1073741824) : countR (decDigits u) = u ∧ countC (decDigits u) = u := by
  obtain ⟨h1, h2, h3, h4⟩ := dec_all u
  have hlen := dec_len (u := u) (by omega)
  constructor
  · unfold countR
    rw [if_neg, h2]
    rintro (q | q | q | q | q)
    · exact h3 (List.length_eq_zero_iff.1 q)
    · omega
    · by_cases hu : 1 ≤ u
      · exact h4 hu q.1
      · obtain rfl : u = 0 := by omega
        refine q.2 ?_
        rw [decDigits, dif_pos (by decide)]
        rfl
    · rw [h1] at q; cases q
    · omega
  · obtain ⟨c, r, e⟩ := List.exists_cons_of_ne_nil h3
    have hc : 48 ≤ c.toNat ∧ c.toNat ≤ 57 := by
      rw [e, List.all_cons] at h1
      have := ((Bool.and_eq_true _ _).mp h1).1
      simpa [digB] using this
    have hp := parse_dig (decDigits u) 0 h1 (by rw [h2]; omega)
    rw [h2] at hp
    have ha : atoiAll (decDigits u) = .ok (u : Int) := by
      rw [e] at hp ⊢
      unfold atoiAll
      have hneg : ¬ c.toNat = 45 := by omega
      have hs : ¬ (c.toNat = 43 ∨ c.toNat = 45) := by omega
      have hm : parseMag (if c.toNat = 43 ∨ c.toNat = 45 then r else c :: r) = .ok u := by
        rw [if_neg hs]
        unfold parseMag
        rw [if_neg (by simp), hp]
      dsimp only
      rw [hm]
      dsimp only
      rw [if_neg (fun q => by omega), if_neg (fun q => hneg q.1), if_neg hneg]
    unfold countC
    rw [ha]
    dsimp only
    rw [if_pos ⟨itoa_nonneg u, by omega, by omega⟩]
theorem count_same (l : List UInt8) : countC l = countR l := by
  by_cases h : ∃ u, u ≤ 1073741824 ∧ l = decDigits u
  · obtain ⟨u, hu, rfl⟩ := h
    obtain ⟨h1, h2⟩ := count_dec hu
    rw [h1, h2]
  · have hR : countR l = -1 := by
      unfold countR
      split
      · rfl
      · rename_i q
        exfalso
        refine h ⟨valD 0 l, by omega, (dec_uniq l (fun e => q (Or.inl (by rw [e]; rfl))) ?_ fun z => q (Or.inr (Or.inr (Or.inl z)))).symm⟩
        cases ha : l.all digB with
        | true => rfl
        | false => exact absurd (Or.inr (Or.inr (Or.inr (Or.inl ha)))) q
    have hC : countC l = -1 := by
      unfold countC
      split
      · rename_i v _
        split
        · rename_i q
          exfalso
          refine h ⟨v.toNat, by omega, ?_⟩
          have e : itoa v = decDigits v.toNat := by unfold itoa; rw [if_neg (by omega)]
          rw [← q.1, e]
        · rfl
      · rfl
    rw [hR, hC]
/-- 0 and above is exactly what is accepted -/
theorem countR_ge (l : List UInt8) : countR l = -1 ∨ (0 ≤ countR l ∧ countR l ≤ 1073741824) := by
  unfold countR
  split
  · exact Or.inl rfl
  · rename_i q
    refine Or.inr ⟨by omega, ?_⟩
    have : ¬ 1073741824 < valD 0 l := fun e => q (Or.inr (Or.inr (Or.inr (Or.inr e))))
    omega
end Go.Proofs.YtjnhiiidcjajbaaGreatDoor
