/-
  slices.IndexFunc and slices.ContainsFunc at api.Edge.
-/
import Derived.Test.YtofaghcnkppmbaaAny
namespace Go.Proofs.Ytofaghcnkppmbaa
open Go.RowKit BH
set_option maxHeartbeats 1000000
set_option maxRecDepth 100000

theorem indexFunc_edge (v : Value) (n : Nat) (c : Nat → Nat → Value) (p : Nat → Bool) (g : Nat) (lb : Array Value) (w : World) (ha : Arr w v n 3 c)
    (eg : ∀ args w, (callFunc g args).run Try.prog w = .ok (.enter g args) w) (hp : PredIn Try.prog g lb n (fun i => .agg #[c i 0, c i 1, c i 2]) p w) :
    Calls Try.prog 39 #[v, .func (.func g) #[] lb] w fun e w' => e = .returned (.int .i64 (idxN p n 0)) ∧ Keeps w w' := by
  obtain ⟨ao, cap, rfl, h1, h2, -, h3⟩ := ha
  unfold maxLen at h2
  have HP := Lib.hid hp
  clear hp
  go_enter Try.func39, Try.ntmps39
  go_wp2
  go_loopw [5, 8] (fun _ s8 wr => ∃ k : Nat, k ≤ n ∧ s8 = .int .i64 k ∧ Keeps w wr ∧ Hid (∀ j, j < k → p j = false)) (fun _ s8 _ => n - (intOf s8).toNat)
  case atStart => exact ⟨0, Nat.zero_le _, rfl, Keeps.refl _, fun j hj => absurd hj (Nat.not_lt_zero _)⟩
  case round =>
    obtain ⟨k, hk, rfl, hkeep, hno⟩ := hrel
    by_cases hlt : k < n
    · obtain ⟨b, off, rfl, hc⟩ := h3 (by omega)
      have c0 : wr.cell? ⟨b, off + k * 3, none⟩ = some (c k 0) := hkeep.cell (hc k 0 hlt (by omega))
      have c1 : wr.cell? ⟨b, off + k * 3 + 1, none⟩ = some (c k 1) := hkeep.cell (hc k 1 hlt (by omega))
      have c2 : wr.cell? ⟨b, off + k * 3 + 2, none⟩ = some (c k 2) := hkeep.cell (hc k 2 hlt (by omega))
      have hcall := HP.out wr k hlt hkeep
      clear hc h3 HP
      simp only [] at hcall
      generalize c k 0 = y0 at c0 hcall
      generalize c k 1 = y1 at c1 hcall
      generalize c k 2 = y2 at c2 hcall
      cases hq : p k with
      | true =>
        rw [hq] at hcall
        have HQ := Lib.hid hq
        clear hq
        go_wp2_with (go_at_fn g; refine hcall.mono ?_; rintro e w' ⟨rfl, hk1⟩)
        go_ret
        refine ⟨?_, hkeep.trans hk1⟩
        rw [idxN_hit (i := 0) (n := n) (k := k) (by omega) (by omega) HQ.out (fun j _ h => hno.out j h)]
        rfl
      | false =>
        rw [hq] at hcall
        have HQ := Lib.hid hq
        clear hq
        go_wp2_with (go_at_fn g; refine hcall.mono ?_; rintro e w' ⟨rfl, hk1⟩)
        go_roundw
        case rel =>
          refine ⟨k + 1, by omega, by go_num, hkeep.trans hk1, fun j hj => ?_⟩
          by_cases e : j = k
          · subst e; exact HQ.out
          · exact hno.out j (by omega)
        case measure => simp [intOf]; omega
    · clear h3 HP
      go_wp2
      go_ret
      obtain rfl : k = n := by omega
      refine ⟨?_, hkeep⟩
      rw [idxN_miss (fun j _ h => hno.out j (by omega))]
      rfl
theorem containsFunc_edge (v : Value) (n : Nat) (c : Nat → Nat → Value) (p : Nat → Bool) (g : Nat) (lb : Array Value) (w : World) (ha : Arr w v n 3 c)
    (eg : ∀ args w, (callFunc g args).run Try.prog w = .ok (.enter g args) w) (hp : PredIn Try.prog g lb n (fun i => .agg #[c i 0, c i 1, c i 2]) p w) :
    Calls Try.prog 23 #[v, .func (.func g) #[] lb] w fun e w' => e = .returned (.bool (anyN p n)) ∧ Keeps w w' := by
  have HP := Lib.hid hp
  have HA := Lib.hid ha
  have EG := Lib.hid eg
  have HN := Lib.hid (idxN_any p n)
  clear hp ha eg
  go_enter Try.func23, Try.ntmps23
  go_wp2_with fail
  refine (indexFunc_edge v n c p g lb _ HA.out EG.out HP.out).mono ?_
  rintro e w' ⟨rfl, hk1⟩
  generalize idxN p n 0 = r at HN
  go_wp2
  go_ret
  exact ⟨by rw [← HN.out]; rfl, hk1⟩
end Go.Proofs.Ytofaghcnkppmbaa
