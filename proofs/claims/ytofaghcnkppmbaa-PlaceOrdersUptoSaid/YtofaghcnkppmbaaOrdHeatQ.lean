/-
  The document's heatOf once more: it does nothing but draw.
-/
import Derived.Test.YtofaghcnkppmbaaOrdHeat
import Derived.Deep.QuietTactic
import Derived.BigQuiet
namespace Go.Proofs.Ytofaghcnkppmbaa
open Go.RowKit BH
set_option maxHeartbeats 1000000000
set_option maxRecDepth 100000
/-- nothing but draws -/
def Drew (w w' : World) : Prop := ∃ n, w' = w.drewN n
theorem Drew.refl (w : World) : Drew w w := ⟨0, rfl⟩
theorem Drew.drewN {w w' : World} (h : Drew w w') (m : Nat) : Drew w (w'.drewN m) := by
  obtain ⟨n, rfl⟩ := h
  exact ⟨n + m, by rw [World.drewN_drewN]⟩
theorem Drew.keeps {w w' : World} (h : Drew w w') : Keeps w w' := by
  obtain ⟨n, rfl⟩ := h
  exact (Keeps.refl _).drewN _
theorem Drew.keep {a w w' : World} (h : Drew w w') (k : Keeps a w) : Keeps a w' := k.trans h.keeps
theorem heatOf_q (va vb : Value) (B : List Int) (l : List Ed) (w : World) (hB : Ints w va B) (hl : Edges w vb l) (hn : ∀ e, e ∈ l → 0 ≤ e.Count) (hs : heatR l B ≤ 4611686018427387904) :
    Calls Try.prog 21 #[va, vb] w fun e w' => e = .returned (.int .i64 (heatR l B)) ∧ Drew w w' := by
  obtain ⟨oa, ca, rfl, a1, a2, -, a4⟩ := hB
  obtain ⟨ob, cb, rfl, b1, b2, -, b4⟩ := hl
  have al : B.length ≤ 9223372036854775807 := by unfold maxLen at a2; omega
  have bl : l.length ≤ 9223372036854775807 := by unfold maxLen at b2; omega
  have HN := Lib.hid hn
  have HS := Lib.hid hs
  clear hn hs a1 a2 b1 b2
  go_enter Try.func21, Try.ntmps21
  go_wp2_with fail
  go_loopw [5, 6] (fun s5 s6 wr => ∃ i : Nat, i ≤ l.length ∧ s5 = .int .i64 (heatR (l.take i) B) ∧ s6 = .int .i64 i ∧ Hid (Drew w wr)) (fun _ s6 _ => l.length - (intOf s6).toNat)
  case atStart => exact ⟨0, Nat.zero_le _, rfl, rfl, Lib.hid (Drew.refl _)⟩
  case round =>
    obtain ⟨i, hi, rfl, rfl, HK⟩ := hrel
    by_cases hlt : i < l.length
    · have hltz : (i : Int) < (l.length : Int) := by omega
      obtain ⟨q, qo, rfl, hq⟩ := b4 (by omega)
      obtain ⟨E, hE⟩ : ∃ E, E = nth l i := ⟨_, rfl⟩
      have hEm : E ∈ l := by rw [hE, nth_eq _ _ hlt]; exact List.getElem_mem hlt
      have hst : heatR (l.take (i + 1)) B = heatR (l.take i) B + heatE B E := by rw [take_succ_nth _ _ hlt, heatR_snoc, hE]
      have hle : heatR l B = heatR (l.take (i + 1)) B + heatR (l.drop (i + 1)) B := by rw [← heatR_append, List.take_append_drop]
      have h1 := heatR_nonneg B (l.take i) fun e he => HN.out e (List.mem_of_mem_take he)
      have h2 := heatR_nonneg B (l.drop (i + 1)) fun e he => HN.out e (List.mem_of_mem_drop he)
      have h3 : 0 ≤ E.Count := HN.out E hEm
      have h4 : heatR (l.take i) B + heatE B E ≤ 4611686018427387904 := by have := HS.out; omega
      have HST := Lib.hid hst
      have HQ := Lib.hid hq
      have HE := Lib.hid hE
      clear hst hle h2 hEm hq hE
      generalize heatR (l.take i) B = S0 at *
      obtain ⟨wo, hwo⟩ : ∃ wo : World, wo = wr := ⟨_, rfl⟩
      subst hwo
      go_wp2_with fail
      go_loopw [5, 7] (fun s5 s7 wr => ∃ k : Nat, k ≤ B.length ∧ s5 = .int .i64 (S0 + heatE (B.take k) E) ∧ s7 = .int .i64 k ∧ Hid (Drew w wr)) (fun _ s7 _ => B.length - (intOf s7).toNat)
      case atStart => exact ⟨0, Nat.zero_le _, by rw [show heatE (B.take 0) E = 0 from rfl, Int.add_zero], rfl, HK⟩
      case round =>
        obtain ⟨k, hk, rfl, rfl, HK2⟩ := hrel
        by_cases hlt2 : k < B.length
        · have hlt2z : (k : Int) < (B.length : Int) := by omega
          obtain ⟨p, po, rfl, hp⟩ := a4 (by omega)
          obtain ⟨y, hy⟩ : ∃ y, y = nth B k := ⟨_, rfl⟩
          have c0 : wr.cell? ⟨p, po + k, none⟩ = some (.int .i64 y) := by have z := HK2.out.keeps.cell (hp k 0 hlt2 (by omega)); rw [← hy] at z; simpa using z
          have d0 : wr.cell? ⟨q, qo + i * 3, none⟩ = some (.int .i64 E.From) := by have z := HK2.out.keeps.cell (HQ.out i 0 hlt (by omega)); rw [← HE.out] at z; exact z
          have d2 : wr.cell? ⟨q, qo + i * 3 + 2, none⟩ = some (.int .i64 E.Count) := by have z := HK2.out.keeps.cell (HQ.out i 2 hlt (by omega)); rw [← HE.out] at z; exact z
          have hs2 : heatE (B.take (k + 1)) E = heatE (B.take k) E + (if y = E.From then E.Count else 0) := by rw [take_succ_nth _ _ hlt2, heatE_snoc, hy]
          have hle2 : heatE B E = heatE (B.take (k + 1)) E + heatE (B.drop (k + 1)) E := by rw [← heatE_append, List.take_append_drop]
          have g1 := heatE_nonneg E h3 (B.take k)
          have g2 := heatE_nonneg E h3 (B.drop (k + 1))
          have HS2 := Lib.hid hs2
          obtain ⟨T, hT⟩ : ∃ T, T = S0 + heatE (B.take k) E := ⟨_, rfl⟩
          have hT0 : 0 ≤ T := by omega
          rw [← hT]
          by_cases hyf : y = E.From
          · have ty : (y == E.From) = true := by simpa using hyf
            have hT1 : T + E.Count ≤ 4611686018427387904 := by rw [if_pos hyf] at hs2; omega
            have hnew : S0 + heatE (B.take (k + 1)) E = T + E.Count := by rw [HS2.out, if_pos hyf]; omega
            have HNEW := Lib.hid hnew
            clear hyf hs2 hle2 hT hy hnew g1 g2 hp
            go_wp2_with fail
            go_quiet (fail)
            go_wp2_with fail
            go_roundw
            case rel => exact ⟨k + 1, by omega, by rw [HNEW.out], by go_num, Lib.hid (HK2.out.drewN _)⟩
            case measure => simp [intOf]; omega
          · have ty : (y == E.From) = false := by simpa using hyf
            have hnew : S0 + heatE (B.take (k + 1)) E = T := by rw [HS2.out, if_neg hyf]; omega
            have HNEW := Lib.hid hnew
            clear hyf hs2 hle2 hT hy hnew g1 g2 hp
            go_wp2_with fail
            go_quiet (fail)
            go_wp2_with fail
            go_roundw
            case rel => exact ⟨k + 1, by omega, by rw [HNEW.out], by go_num, Lib.hid (HK2.out.drewN _)⟩
            case measure => simp [intOf]; omega
        · obtain rfl : k = B.length := by omega
          go_wp2_with fail
          go_roundw
          case rel => exact ⟨i + 1, by omega, by rw [HST.out, List.take_length], by go_num, HK2⟩
          case measure => simp [intOf]; omega
    · obtain rfl : i = l.length := by omega
      go_wp2_with fail
      go_ret
      exact ⟨by rw [List.take_length]; rfl, HK.out⟩
end Go.Proofs.Ytofaghcnkppmbaa
