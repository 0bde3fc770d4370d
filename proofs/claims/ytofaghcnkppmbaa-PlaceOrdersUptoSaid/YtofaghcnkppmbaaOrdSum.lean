/-
  place.sum: the heat of blocks.
-/
import Derived.Test.YtofaghcnkppmbaaCore
import Derived.Test.YtofaghcnkppmbaaIn
import Derived.Test.YtofaghcnkppmbaaChecked
import Derived.Lib.Hide
namespace Go.Proofs.Ytofaghcnkppmbaa
open Go.RowKit BH
set_option maxHeartbeats 1000000
set_option maxRecDepth 100000
/-- the heat of blocks, block by block -/
def sumH (H : List Int) (L : List Int) : Int := (L.map fun b => nth H b.toNat).sum
theorem sumH_snoc (H L : List Int) (b : Int) : sumH H (L ++ [b]) = sumH H L + nth H b.toNat := by
  unfold sumH
  rw [List.map_append, List.sum_append]
  simp
theorem sumH_append (H L M : List Int) : sumH H (L ++ M) = sumH H L + sumH H M := by
  unfold sumH
  rw [List.map_append, List.sum_append]
theorem sumH_nonneg (H L : List Int) (h : ∀ j, j < H.length → 0 ≤ nth H j) (hL : ∀ b, b ∈ L → 0 ≤ b ∧ b < H.length) : 0 ≤ sumH H L := by
  induction L with
  | nil => exact Int.le_refl _
  | cons b r ih =>
    have e : sumH H (b :: r) = nth H b.toNat + sumH H r := rfl
    rw [e]
    have h1 := hL b (List.mem_cons_self ..)
    have h2 := h b.toNat (by omega)
    have h3 := ih fun x hx => hL x (List.mem_cons_of_mem _ hx)
    omega
theorem sum_any (va vb : Value) (L H : List Int) (w : World) (hL : Ints w va L) (hH : Ints w vb H) (hb : ∀ b, b ∈ L → 0 ≤ b ∧ b < H.length) (hn : ∀ j, j < H.length → 0 ≤ nth H j) (hs : sumH H L ≤ 4611686018427387904) :
    Calls Try.prog 33 #[va, vb] w fun e w' => e = .returned (.int .i64 (sumH H L)) ∧ w = w' := by
  obtain ⟨oa, ca, rfl, a1, a2, -, a4⟩ := hL
  obtain ⟨ob, cb, rfl, b1, b2, -, b4⟩ := hH
  unfold maxLen at a2 b2
  have HB := Lib.hid hb
  have HN := Lib.hid hn
  have HS := Lib.hid hs
  clear hb hn hs
  go_enter Try.func33, Try.ntmps33
  go_wp2_with fail
  go_loopw [5, 10] (fun s5 s10 wr => ∃ i : Nat, i ≤ L.length ∧ s5 = .int .i64 (sumH H (L.take i)) ∧ s10 = .int .i64 i ∧ wr = w) (fun _ s10 _ => L.length - (intOf s10).toNat)
  case atStart => exact ⟨0, Nat.zero_le _, rfl, rfl, rfl⟩
  case round =>
    obtain ⟨i, hi, rfl, rfl, rfl⟩ := hrel
    by_cases hlt : i < L.length
    · obtain ⟨q, qo, rfl, hq⟩ := a4 (by omega)
      have c0 : wr.cell? ⟨q, qo + i, none⟩ = some (.int .i64 (nth L i)) := by simpa using hq i 0 hlt (by omega)
      have hbi := HB.out (nth L i) (by rw [nth_eq _ _ hlt]; exact List.getElem_mem hlt)
      obtain ⟨j, hj⟩ : ∃ j : Nat, nth L i = j := ⟨(nth L i).toNat, by omega⟩
      rw [hj] at c0 hbi
      have hjl : j < H.length := by omega
      obtain ⟨p, po, rfl, hp⟩ := b4 (by omega)
      have c1 : wr.cell? ⟨p, po + j, none⟩ = some (.int .i64 (nth H j)) := by simpa using hp j 0 hjl (by omega)
      have hjz : (j : Int) < (H.length : Int) := by omega
      have hst : sumH H (L.take (i + 1)) = sumH H (L.take i) + nth H j := by rw [take_succ_nth _ _ hlt, sumH_snoc, hj]; rfl
      have hle : sumH H L = sumH H (L.take (i + 1)) + sumH H (L.drop (i + 1)) := by rw [← sumH_append, List.take_append_drop]
      have h1 := sumH_nonneg H (L.take i) HN.out fun b hb => HB.out b (List.mem_of_mem_take hb)
      have h2 := sumH_nonneg H (L.drop (i + 1)) HN.out fun b hb => HB.out b (List.mem_of_mem_drop hb)
      have h3 := HN.out j hjl
      have h4 : sumH H (L.take i) + nth H j ≤ 4611686018427387904 := by have := HS.out; omega
      have HST := Lib.hid hst
      clear hst hle h2 hq hp
      generalize sumH H (L.take i) = S at *
      generalize nth H j = x at *
      go_wp2_with fail
      go_roundw
      case rel => exact ⟨i + 1, by omega, by rw [HST.out], by go_num, trivial⟩
      case measure => simp [intOf]; omega
    · obtain rfl : i = L.length := by omega
      go_wp2_with fail
      go_ret
      exact ⟨by rw [List.take_length]; rfl, rfl⟩
end Go.Proofs.Ytofaghcnkppmbaa
