/-
 slices.IndexFunc and slices.ContainsFunc at the program's element types: what they answer for whatever function value answers as a plain test.
-/
import Derived.Test.YtnekiooaobnndaaDoorOwn
import Derived.Test.YtnekiooaobnndaaDoorRegHead
import Derived.Lib.Hide
import Derived.Shelf.Abstract
namespace Go.Proofs.YtnekiooaobnndaaDoor
open Go.RowKit BH
set_option maxHeartbeats 1000000
set_option maxRecDepth 100000

/-- the function value g (with what it has captured) answers the test p of element i, and leaves all that was there as it was -/
def PredIn (P : Program) (g : Nat) (lb : Array Value) (n : Nat) (el : Nat → Value) (p : Nat → Bool) (w : World) : Prop :=
 ∀ (W : World) (i : Nat), i < n → Keeps w W → Calls P g (#[el i] ++ lb) W fun e w' => e = .returned (.bool (p i)) ∧ Keeps W w'
theorem PredIn.later {P : Program} {g : Nat} {lb : Array Value} {n : Nat} {el : Nat → Value} {p : Nat → Bool} {w w1 : World} (h : PredIn P g lb n el p w) (hk : Keeps w w1) : PredIn P g lb n el p w1 :=
 fun W i hi hW => h W i hi (hk.trans hW)
/-- is the test met below n? -/
def anyN (p : Nat → Bool) : Nat → Bool
 | 0 => false
 | n + 1 => anyN p n || p n
/-- the first place from i on (n places) where it is met; -1 -/
def idxN (p : Nat → Bool) : Nat → Nat → Int
 | 0, _ => -1
 | n + 1, i => if p i then i else idxN p n (i + 1)
theorem anyN_no {p : Nat → Bool} : ∀ {n : Nat}, (∀ j, j < n → p j = false) → anyN p n = false
 | 0, _ => rfl
 | n + 1, h => by rw [anyN, anyN_no (fun j hj => h j (by omega)), h n (by omega)]; rfl
theorem anyN_yes {p : Nat → Bool} : ∀ {n k : Nat}, k < n → p k = true → anyN p n = true
 | 0, k, h, _ => absurd h (Nat.not_lt_zero _)
 | n + 1, k, h, hp => by
  by_cases e : k = n
  ·subst e; simp [anyN, hp]
  ·simp [anyN, anyN_yes (n := n) (k := k) (by omega) hp]
theorem anyN_false {p : Nat → Bool} {n : Nat} (h : anyN p n = false) : ∀ j, j < n → p j = false := fun j hj => by
 cases e : p j with
 | false => rfl
 | true => rw [anyN_yes hj e] at h; cases h
theorem anyN_true {p : Nat → Bool} : ∀ {n : Nat}, anyN p n = true → ∃ k, k < n ∧ p k = true
 | 0, h => by cases h
 | n + 1, h => by
  simp only [anyN, Bool.or_eq_true] at h
  rcases h with h | h
  ·obtain ⟨k, hk, hp⟩ := anyN_true h; exact ⟨k, by omega, hp⟩
  ·exact ⟨n, by omega, h⟩
theorem idxN_hit {p : Nat → Bool} : ∀ {n i k : Nat}, i ≤ k → k < i + n → p k = true → (∀ j, i ≤ j → j < k → p j = false) → idxN p n i = k
 | 0, i, k, h1, h2, _, _ => absurd h2 (by omega)
 | n + 1, i, k, h1, h2, hp, hn => by
  unfold idxN
  by_cases e : i = k
  ·subst e; rw [if_pos hp]
  ·rw [hn i (Nat.le_refl _) (by omega), if_neg (by simp)]
   exact idxN_hit (by omega) (by omega) hp (fun j h3 h4 => hn j (by omega) h4)
theorem idxN_miss {p : Nat → Bool} : ∀ {n i : Nat}, (∀ j, i ≤ j → j < i + n → p j = false) → idxN p n i = -1
 | 0, _, _ => rfl
 | n + 1, i, hn => by
  unfold idxN
  rw [hn i (Nat.le_refl _) (by omega), if_neg (by simp)]
  exact idxN_miss (fun j h3 h4 => hn j (by omega) (by omega))
theorem idxN_any (p : Nat → Bool) (n : Nat) : decide (0 ≤ idxN p n 0) = anyN p n := by
 cases e : anyN p n with
 | false =>
  rw [idxN_miss (fun j _ h => anyN_false e j (by omega))]; rfl
 | true =>
  obtain ⟨k0, hk0, hp0⟩ := anyN_true e
  obtain ⟨k, hk, hp, hn⟩ : ∃ k, k < n ∧ p k = true ∧ ∀ j, j < k → p j = false := by
   clear e
   induction k0 using Nat.strongRecOn with
   | ind m ih =>
    by_cases h : ∃ j, j < m ∧ p j = true
    ·obtain ⟨j, hj, hpj⟩ := h; exact ih j hj (by omega) hpj
    ·exact ⟨m, hk0, hp0, fun j hj => by
      cases e : p j with
      | false => rfl
      | true => exact absurd ⟨j, hj, e⟩ h⟩
  rw [idxN_hit (i := 0) (n := n) (k := k) (by omega) (by omega) hp (fun j _ h => hn j h)]
  simp
theorem indexFunc_int (v : Value) (n : Nat) (c : Nat → Nat → Value) (p : Nat → Bool) (g : Nat) (lb : Array Value) (w : World) (ha : Arr w v n 1 c)
  (eg : ∀ args w, (callFunc g args).run Tryd.prog w = .ok (.enter g args) w) (hp : PredIn Tryd.prog g lb n (fun i => c i 0) p w) :
  Calls Tryd.prog 67 #[v, .func (.func g) #[] lb] w fun e w' => e = .returned (.int .i64 (idxN p n 0)) ∧ Keeps w w' := by
 obtain ⟨ao, cap, rfl, h1, h2, -, h3⟩ := ha
 unfold maxLen at h2
 have HP := Lib.hid hp
 clear hp
 go_enter Tryd.func67, Tryd.ntmps67
 go_wp2
 go_loopw [5, 8] (fun _ s8 wr => ∃ k : Nat, k ≤ n ∧ s8 = .int .i64 k ∧ Keeps w wr ∧ Hid (∀ j, j < k → p j = false)) (fun _ s8 _ => n - (intOf s8).toNat)
 case atStart => exact ⟨0, Nat.zero_le _, rfl, Keeps.refl _, fun j hj => absurd hj (Nat.not_lt_zero _)⟩
 case round =>
  obtain ⟨k, hk, rfl, hkeep, hno⟩ := hrel
  by_cases hlt : k < n
  ·obtain ⟨b, off, rfl, hc⟩ := h3 (by omega)
   have c0 : wr.cell? ⟨b, off + k, none⟩ = some (c k 0) := hkeep.cell (by simpa using hc k 0 hlt (by omega))
   have hcall := HP.out wr k hlt hkeep
   clear hc h3 HP
   simp only [] at hcall
   generalize c k 0 = y0 at c0 hcall
   cases hq : p k with
   | true =>
    rw [hq] at hcall
    have HQ := Lib.hid hq
    clear hq
    go_wp2_with (go_at_fn g; refine hcall.mono ?_; rintro e w' ⟨rfl, hk1⟩)
    go_ret
    refine ⟨?_, hkeep.trans hk1⟩
    rw [idxN_hit (i := 0) (n := n) (k := k) (by omega) (by omega) HQ.out (fun j _ h => hno.out j h)]
    rfl
   | false =>
    rw [hq] at hcall
    have HQ := Lib.hid hq
    clear hq
    go_wp2_with (go_at_fn g; refine hcall.mono ?_; rintro e w' ⟨rfl, hk1⟩)
    go_roundw
    case rel =>
     refine ⟨k + 1, by omega, by go_num, hkeep.trans hk1, fun j hj => ?_⟩
     by_cases e : j = k
     ·subst e; exact HQ.out
     ·exact hno.out j (by omega)
    case measure => simp [intOf]; omega
  ·clear h3 HP
   go_wp2
   go_ret
   obtain rfl : k = n := by omega
   refine ⟨?_, hkeep⟩
   rw [idxN_miss (fun j _ h => hno.out j (by omega))]
   rfl
theorem containsFunc_int (v : Value) (n : Nat) (c : Nat → Nat → Value) (p : Nat → Bool) (g : Nat) (lb : Array Value) (w : World) (ha : Arr w v n 1 c)
  (eg : ∀ args w, (callFunc g args).run Tryd.prog w = .ok (.enter g args) w) (hp : PredIn Tryd.prog g lb n (fun i => c i 0) p w) :
  Calls Tryd.prog 38 #[v, .func (.func g) #[] lb] w fun e w' => e = .returned (.bool (anyN p n)) ∧ Keeps w w' := by
 have HP := Lib.hid hp
 have HA := Lib.hid ha
 have EG := Lib.hid eg
 have HN := Lib.hid (idxN_any p n)
 clear hp ha eg
 go_enter Tryd.func38, Tryd.ntmps38
 go_wp2_with fail
 refine (indexFunc_int v n c p g lb _ HA.out EG.out HP.out).mono ?_
 rintro e w' ⟨rfl, hk1⟩
 generalize idxN p n 0 = r at HN
 go_wp2
 go_ret
 exact ⟨by rw [← HN.out]; rfl, hk1⟩

theorem indexFunc_u8 (v : Value) (n : Nat) (c : Nat → Nat → Value) (p : Nat → Bool) (g : Nat) (lb : Array Value) (w : World) (ha : Arr w v n 1 c)
  (eg : ∀ args w, (callFunc g args).run Tryd.prog w = .ok (.enter g args) w) (hp : PredIn Tryd.prog g lb n (fun i => c i 0) p w) :
  Calls Tryd.prog 95 #[v, .func (.func g) #[] lb] w fun e w' => e = .returned (.int .i64 (idxN p n 0)) ∧ Keeps w w' := by
 obtain ⟨ao, cap, rfl, h1, h2, -, h3⟩ := ha
 unfold maxLen at h2
 have HP := Lib.hid hp
 clear hp
 go_enter Tryd.func95, Tryd.ntmps95
 go_wp2
 go_loopw [5, 8] (fun _ s8 wr => ∃ k : Nat, k ≤ n ∧ s8 = .int .i64 k ∧ Keeps w wr ∧ Hid (∀ j, j < k → p j = false)) (fun _ s8 _ => n - (intOf s8).toNat)
 case atStart => exact ⟨0, Nat.zero_le _, rfl, Keeps.refl _, fun j hj => absurd hj (Nat.not_lt_zero _)⟩
 case round =>
  obtain ⟨k, hk, rfl, hkeep, hno⟩ := hrel
  by_cases hlt : k < n
  ·obtain ⟨b, off, rfl, hc⟩ := h3 (by omega)
   have c0 : wr.cell? ⟨b, off + k, none⟩ = some (c k 0) := hkeep.cell (by simpa using hc k 0 hlt (by omega))
   have hcall := HP.out wr k hlt hkeep
   clear hc h3 HP
   simp only [] at hcall
   generalize c k 0 = y0 at c0 hcall
   cases hq : p k with
   | true =>
    rw [hq] at hcall
    have HQ := Lib.hid hq
    clear hq
    go_wp2_with (go_at_fn g; refine hcall.mono ?_; rintro e w' ⟨rfl, hk1⟩)
    go_ret
    refine ⟨?_, hkeep.trans hk1⟩
    rw [idxN_hit (i := 0) (n := n) (k := k) (by omega) (by omega) HQ.out (fun j _ h => hno.out j h)]
    rfl
   | false =>
    rw [hq] at hcall
    have HQ := Lib.hid hq
    clear hq
    go_wp2_with (go_at_fn g; refine hcall.mono ?_; rintro e w' ⟨rfl, hk1⟩)
    go_roundw
    case rel =>
     refine ⟨k + 1, by omega, by go_num, hkeep.trans hk1, fun j hj => ?_⟩
     by_cases e : j = k
     ·subst e; exact HQ.out
     ·exact hno.out j (by omega)
    case measure => simp [intOf]; omega
  ·clear h3 HP
   go_wp2
   go_ret
   obtain rfl : k = n := by omega
   refine ⟨?_, hkeep⟩
   rw [idxN_miss (fun j _ h => hno.out j (by omega))]
   rfl
theorem containsFunc_u8 (v : Value) (n : Nat) (c : Nat → Nat → Value) (p : Nat → Bool) (g : Nat) (lb : Array Value) (w : World) (ha : Arr w v n 1 c)
  (eg : ∀ args w, (callFunc g args).run Tryd.prog w = .ok (.enter g args) w) (hp : PredIn Tryd.prog g lb n (fun i => c i 0) p w) :
  Calls Tryd.prog 78 #[v, .func (.func g) #[] lb] w fun e w' => e = .returned (.bool (anyN p n)) ∧ Keeps w w' := by
 have HP := Lib.hid hp
 have HA := Lib.hid ha
 have EG := Lib.hid eg
 have HN := Lib.hid (idxN_any p n)
 clear hp ha eg
 go_enter Tryd.func78, Tryd.ntmps78
 go_wp2_with fail
 refine (indexFunc_u8 v n c p g lb _ HA.out EG.out HP.out).mono ?_
 rintro e w' ⟨rfl, hk1⟩
 generalize idxN p n 0 = r at HN
 go_wp2
 go_ret
 exact ⟨by rw [← HN.out]; rfl, hk1⟩

theorem indexFunc_fun (v : Value) (n : Nat) (c : Nat → Nat → Value) (p : Nat → Bool) (g : Nat) (lb : Array Value) (w : World) (ha : Arr w v n 3 c)
  (eg : ∀ args w, (callFunc g args).run Tryd.prog w = .ok (.enter g args) w) (hp : PredIn Tryd.prog g lb n (fun i => .agg #[c i 0, c i 1, c i 2]) p w) :
  Calls Tryd.prog 71 #[v, .func (.func g) #[] lb] w fun e w' => e = .returned (.int .i64 (idxN p n 0)) ∧ Keeps w w' := by
 obtain ⟨ao, cap, rfl, h1, h2, -, h3⟩ := ha
 unfold maxLen at h2
 have HP := Lib.hid hp
 clear hp
 go_enter Tryd.func71, Tryd.ntmps71
 go_wp2
 go_loopw [5, 8] (fun _ s8 wr => ∃ k : Nat, k ≤ n ∧ s8 = .int .i64 k ∧ Keeps w wr ∧ Hid (∀ j, j < k → p j = false)) (fun _ s8 _ => n - (intOf s8).toNat)
 case atStart => exact ⟨0, Nat.zero_le _, rfl, Keeps.refl _, fun j hj => absurd hj (Nat.not_lt_zero _)⟩
 case round =>
  obtain ⟨k, hk, rfl, hkeep, hno⟩ := hrel
  by_cases hlt : k < n
  ·obtain ⟨b, off, rfl, hc⟩ := h3 (by omega)
   have c0 : wr.cell? ⟨b, off + k * 3, none⟩ = some (c k 0) := hkeep.cell (hc k 0 hlt (by omega))
   have c1 : wr.cell? ⟨b, off + k * 3 + 1, none⟩ = some (c k 1) := hkeep.cell (hc k 1 hlt (by omega))
   have c2 : wr.cell? ⟨b, off + k * 3 + 2, none⟩ = some (c k 2) := hkeep.cell (hc k 2 hlt (by omega))
   have hcall := HP.out wr k hlt hkeep
   clear hc h3 HP
   simp only [] at hcall
   generalize c k 0 = y0 at c0 hcall
   generalize c k 1 = y1 at c1 hcall
   generalize c k 2 = y2 at c2 hcall
   cases hq : p k with
   | true =>
    rw [hq] at hcall
    have HQ := Lib.hid hq
    clear hq
    go_wp2_with (go_at_fn g; refine hcall.mono ?_; rintro e w' ⟨rfl, hk1⟩)
    go_ret
    refine ⟨?_, hkeep.trans hk1⟩
    rw [idxN_hit (i := 0) (n := n) (k := k) (by omega) (by omega) HQ.out (fun j _ h => hno.out j h)]
    rfl
   | false =>
    rw [hq] at hcall
    have HQ := Lib.hid hq
    clear hq
    go_wp2_with (go_at_fn g; refine hcall.mono ?_; rintro e w' ⟨rfl, hk1⟩)
    go_roundw
    case rel =>
     refine ⟨k + 1, by omega, by go_num, hkeep.trans hk1, fun j hj => ?_⟩
     by_cases e : j = k
     ·subst e; exact HQ.out
     ·exact hno.out j (by omega)
    case measure => simp [intOf]; omega
  ·clear h3 HP
   go_wp2
   go_ret
   obtain rfl : k = n := by omega
   refine ⟨?_, hkeep⟩
   rw [idxN_miss (fun j _ h => hno.out j (by omega))]
   rfl
theorem containsFunc_fun (v : Value) (n : Nat) (c : Nat → Nat → Value) (p : Nat → Bool) (g : Nat) (lb : Array Value) (w : World) (ha : Arr w v n 3 c)
  (eg : ∀ args w, (callFunc g args).run Tryd.prog w = .ok (.enter g args) w) (hp : PredIn Tryd.prog g lb n (fun i => .agg #[c i 0, c i 1, c i 2]) p w) :
  Calls Tryd.prog 47 #[v, .func (.func g) #[] lb] w fun e w' => e = .returned (.bool (anyN p n)) ∧ Keeps w w' := by
 have HP := Lib.hid hp
 have HA := Lib.hid ha
 have EG := Lib.hid eg
 have HN := Lib.hid (idxN_any p n)
 clear hp ha eg
 go_enter Tryd.func47, Tryd.ntmps47
 go_wp2_with fail
 refine (indexFunc_fun v n c p g lb _ HA.out EG.out HP.out).mono ?_
 rintro e w' ⟨rfl, hk1⟩
 generalize idxN p n 0 = r at HN
 go_wp2
 go_ret
 exact ⟨by rw [← HN.out]; rfl, hk1⟩
end Go.Proofs.YtnekiooaobnndaaDoor
