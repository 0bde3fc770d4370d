/-
  Small functions of tally.Map: is a count out of bounds; a capped sum; is a place among those to which a block goes on (code and document).
-/
import Derived.Test.YtjnhiiidcjajbaaGreatDoorTalMapP
import Derived.Test.YtjnhiiidcjajbaaGreatDoorNexts
import Derived.Test.YtjnhiiidcjajbaaGreatDoorNextsRef
import Derived.Test.YtjnhiiidcjajbaaGreatDoorSortK
import Derived.Test.YtjnhiiidcjajbaaGreatDoorShelf
import Derived.OwnWalk
namespace Go.Proofs.YtjnhiiidcjajbaaGreatDoor
open Go.RowKit BH
set_option maxHeartbeats 100000000
set_option maxRecDepth 100000
def badC (e : Ed) : Bool := decide (e.Count < 0 ∨ 1073741824 < e.Count)
theorem map1_any (F T C : Int) (w : World) : Calls Tryz.prog 31 #[.agg #[.int .i64 F, .int .i64 T, .int .i64 C]] w fun e w' => e = .returned (.bool (badC ⟨F, T, C⟩)) ∧ Keeps w w' := by
  by_cases h0 : C < 0
  · have t0 : decide (C < 0) = true := decide_eq_true h0
    have hb : badC ⟨F, T, C⟩ = true := decide_eq_true (Or.inl h0)
    rw [hb]
    clear hb h0
    go_enter Tryz.func31, Tryz.ntmps31
    go_wp2_with fail
    go_ret
    exact ⟨rfl, (Keeps.refl _).alloc _⟩
  · have t0 : decide (C < 0) = false := decide_eq_false h0
    by_cases h1 : 1073741824 < C
    · have t1 : decide (1073741824 < C) = true := decide_eq_true h1
      have hb : badC ⟨F, T, C⟩ = true := decide_eq_true (Or.inr h1)
      rw [hb]
      clear hb h0 h1
      go_enter Tryz.func31, Tryz.ntmps31
      go_wp2_with fail
      go_ret
      exact ⟨rfl, (Keeps.refl _).alloc _⟩
    · have t1 : decide (1073741824 < C) = false := decide_eq_false h1
      have hb : badC ⟨F, T, C⟩ = false := decide_eq_false (fun z => by rcases z with z | z; exact h0 z; exact h1 z)
      rw [hb]
      clear hb h0 h1
      go_enter Tryz.func31, Tryz.ntmps31
      go_wp2_with fail
      go_ret
      exact ⟨rfl, (Keeps.refl _).alloc _⟩
theorem capped_any (a b : Int) (w : World) (ha : 0 ≤ a) (ha2 : a ≤ 1073741824) (hb : 0 ≤ b) (hb2 : b ≤ 1073741824) : Calls Tryz.prog 34 #[.int .i64 a, .int .i64 b] w fun e w' => e = .returned (.int .i64 (capS (a + b))) ∧ w' = w := by
  have ws : IntKind.i64.wrap (a + b) = a + b := by rw [IntKind.wrap_i64]; omega
  go_enter Tryz.func34, Tryz.ntmps34
  go_wp2_with fail
  go_ret
  refine ⟨?_, rfl⟩
  unfold capS
  first | rfl | (congr 2; omega) | skip
/-- the places to which a block may go on -/
def nx (f : Fl) (a : Int) : List Int := uniq (nextsRaw f (nth f.Blocks a.toNat))
theorem contains_any (v : Value) (l : List Int) (x : Int) (w : World) (hv : Ints w v l) : Calls Tryz.prog 33 #[v, .int .i64 x] w fun e w' => e = .returned (.bool (l.contains x)) ∧ w' = w := by
  obtain ⟨ao, cap, rfl, h1, h2, -, h3⟩ := hv
  by_cases h0 : l.length = 0
  · have hl := List.length_eq_zero_iff.1 h0
    subst hl
    exact Any.slices_Contains_int_empty Tryz.laysContains ao cap x w
  · obtain ⟨b, off, rfl, hc⟩ := h3 (by omega)
    unfold maxLen at h2
    have hq := Any.slices_Contains_int Tryz.laysContains b off l.length cap l x w (Nat.le_refl _) (by omega) (fun j hj => by
      have z := hc j 0 hj (by omega)
      simp only [Nat.mul_one, Nat.add_zero] at z
      rw [z, nth_eq _ _ hj]
      congr 2
      rw [List.getD_eq_getElem?_getD, List.getElem?_eq_getElem hj]
      rfl)
    rw [List.take_length] at hq
    exact hq
theorem isNext_any (v : Value) (f : Fl) (a b : Int) (w : World) (hv : FlowAt w v f) (hs : FlowSmall f) (h0 : 0 ≤ a) (h1 : a < f.Blocks.length) :
    Calls Tryz.prog 21 #[v, .int .i64 a, .int .i64 b] w fun e w' => e = .returned (.bool (decide (b ∈ nx f a))) ∧ Keeps w w' := by
  obtain ⟨k, rfl⟩ : ∃ k : Nat, a = k := ⟨a.toNat, by omega⟩
  have hN := nextsOf_ok v f k
  have HV := Lib.hid hv
  obtain ⟨v0, v1, v2, rfl, -, -, -⟩ := hv
  have hnx : nx f k = uniq (nextsRaw f (nth f.Blocks k)) := by unfold nx; rw [Int.toNat_natCast]
  rw [hnx]
  obtain ⟨L, hL⟩ : ∃ L, L = uniq (nextsRaw f (nth f.Blocks k)) := ⟨_, rfl⟩
  rw [← hL]
  have HN : Hid (∀ w', Keeps w w' → Calls Tryz.prog 57 #[.agg #[v0, v1, v2], .int .i64 k] w' (GivesN (fun v' w'' => Ints w'' v' L) 0 w')) := Lib.hid fun w' hk => by rw [hL]; exact hN w' (HV.out.keep hk) (by omega) hs
  clear hN hnx hL
  go_enter Tryz.func21, Tryz.ntmps21
  obtain ⟨W, hW, hB, hk0⟩ : ∃ W, W = w.alloc (.cells #[v0, v1, v2] 26) ∧ Blk W w.heap.size (.cells #[v0, v1, v2] 26) ∧ Keeps w W := ⟨_, rfl, Blk.top _ _, (Keeps.refl _).alloc _⟩
  go_upto_region 2 with (go_at_call 57; refine (HN.out _ (by repeat (with_reducible (first | assumption | exact Keeps.refl _ | refine Keeps.alloc ?_ _ | refine Keeps.drew ?_ | refine Keeps.drewN ?_ _)))).mono ?_; rintro e w1 ⟨v1', rfl, hi1, hk1⟩; obtain ⟨ao1, cp1, e1⟩ := Arr.form hi1; subst e1)
  have hkk : Keeps w w1 := Keeps.trans (by repeat (with_reducible (first | assumption | exact Keeps.refl _ | refine Keeps.alloc ?_ _ | refine Keeps.drew ?_ | refine Keeps.drewN ?_ _))) hk1
  have HKK := Lib.hid hkk
  obtain ⟨ao', ca', e', h1', h2', -, h3'⟩ := hi1
  injection e' with e1 e2 e3
  subst e1 e3
  unfold maxLen at h2'
  clear hkk hk1 hW hB hk0 e2
  go_wp2_with fail
  go_loopw [9] (fun s9 wr => ∃ j : Nat, j ≤ L.length ∧ s9 = .int .i64 j ∧ Hid (∀ i, i < j → nth L i ≠ b) ∧ w1 = wr) (fun s9 _ => L.length - (intOf s9).toNat)
  case atStart => exact ⟨0, Nat.zero_le _, rfl, fun i hi => absurd hi (Nat.not_lt_zero _), rfl⟩
  case round =>
    obtain ⟨j, hj, rfl, HNO, rfl⟩ := hrel
    by_cases hlt : j < L.length
    · have hltz : (j : Int) < (L.length : Int) := by omega
      obtain ⟨rb, ro, rfl, rc⟩ := h3' (by omega)
      obtain ⟨z, hz⟩ : ∃ z, z = nth L j := ⟨_, rfl⟩
      have c0 : w1.cell? ⟨rb, ro + j, none⟩ = some (.int .i64 z) := by have q := rc j 0 hlt (by omega); simp only [Nat.mul_one, Nat.add_zero] at q; rw [hz]; exact q
      by_cases hq : z = b
      · have t0 : (z == b) = true := by simpa using hq
        have hm : decide (b ∈ L) = true := decide_eq_true (by rw [← hq, hz]; rw [nth_eq _ _ hlt]; exact List.getElem_mem hlt)
        have HM := Lib.hid hm
        clear hm hq hz rc h3'
        go_wp2_with fail
        go_ret
        exact ⟨by rw [HM.out]; rfl, HKK.out⟩
      · have t0 : (z == b) = false := by simpa using hq
        have HNO2 : Hid (∀ i, i < j + 1 → nth L i ≠ b) := Lib.hid fun i hi => by
          by_cases q : i = j
          · subst q; rw [← hz]; exact hq
          · exact HNO.out i (by omega)
        clear hq hz rc
        go_wp2_with fail
        go_roundw
        case rel => exact ⟨j + 1, by omega, by go_num, HNO2, by first | rfl | trivial⟩
        case measure => simp [intOf]; omega
    · obtain rfl : j = L.length := by omega
      have hm : decide (b ∈ L) = false := decide_eq_false fun hm => by
        obtain ⟨i, hi, e⟩ := List.mem_iff_getElem.1 hm
        exact HNO.out i hi (by rw [nth_eq _ _ hi]; exact e)
      have HM := Lib.hid hm
      clear hm
      go_wp2_with fail
      go_ret
      exact ⟨by rw [HM.out]; rfl, HKK.out⟩
end Go.Proofs.YtjnhiiidcjajbaaGreatDoor
