/-
slices.IndexFunc and slices.ContainsFunc at the program's el
-/
import Derived.Test.YtgdamggkaklhjaaDoorOwn
import Derived.Test.YtgdamggkaklhjaaDoorRegHead
import Derived.Shelf.Abstract
set_option linter.all false
section
namespace Go.Proofs.YtgdamggkaklhjaaDoor
open Go.RowKit BH
set_option maxHeartbeats 1000000
set_option maxRecDepth 100000

def PredIn (P : Program) (g : Nat) (lb : Array Value) (n : Nat) (el : Nat → Value) (p : Nat → Bool) (w : World) : Prop :=
 ∀ (W : World) (i : Nat), i < n → Keeps w W → Calls P g (#[el i] ++ lb) W fun e w' => e = .returned (.bool (p i)) ∧ Keeps W w'
theorem PredIn.later {P : Program} {g : Nat} {lb : Array Value} {n : Nat} {el : Nat → Value} {p : Nat → Bool} {w w1 : World} (h : PredIn P g lb n el p w) (hk : Keeps w w1) : PredIn P g lb n el p w1 :=
 fun W i hi hW => h W i hi (hk.trans hW)
def anyN (p : Nat → Bool) : Nat → Bool
 | 0 => false
 | n + 1 => anyN p n || p n
def idxN (p : Nat → Bool) : Nat → Nat → Int
 | 0, _ => -1
 | n + 1, i => if p i then i else idxN p n (i + 1)
theorem anyN_no {p : Nat → Bool} : ∀ {n : Nat}, (∀ j, j < n → p j = false) → anyN p n = false
 | 0, _ => rfl
 | n + 1, h => by rw [anyN, anyN_no (fun j hj => h j jo), h n jo]; rfl
theorem anyN_yes {p : Nat → Bool} : ∀ {n k : Nat}, k < n → p k = true → anyN p n = true
 | 0, k, h, _ => absurd h (Nat.not_lt_zero _)
 | n + 1, k, h, hp => by
  by_cases e : k = n
  ·subst e; simp [anyN, hp]
  simp [anyN, anyN_yes (n := n) (k := k) jo hp]
theorem anyN_false {p : Nat → Bool} {n : Nat} (h : anyN p n = false) : ∀ j, j < n → p j = false := fun j hj => by
 cases e : p j with
 | false => rfl
 | true => rw [anyN_yes hj e] at h; cases h
theorem anyN_true {p : Nat → Bool} : ∀ {n : Nat}, anyN p n = true → ∃ k, k < n ∧ p k = true
 | 0, h => by cases h
 | n + 1, h => by
  simp only [anyN, Bool.or_eq_true] at h
  rcases h with h | h
  ·obtain ⟨k, hk, hp⟩ := anyN_true h; exact ⟨k, by omega, hp⟩
  exact ⟨n, by omega, h⟩
theorem idxN_hit {p : Nat → Bool} : ∀ {n i k : Nat}, i ≤ k → k < i + n → p k = true → (∀ j, i ≤ j → j < k → p j = false) → idxN p n i = k
 | 0, i, k, h1, h2, _, _ => absurd h2 jo
 | n + 1, i, k, h1, h2, hp, hn => by
  unfold idxN
  by_cases e : i = k
  ·subst e; rw [if_pos hp]
  rw [hn i (Nat.le_refl _) jo, if_neg (by simp)]
  exact idxN_hit jo jo hp (fun j h3 h4 => hn j jo h4)
theorem idxN_miss {p : Nat → Bool} : ∀ {n i : Nat}, (∀ j, i ≤ j → j < i + n → p j = false) → idxN p n i = -1
 | 0, _, _ => rfl
 | n + 1, i, hn => by unfold idxN; (rw [hn i (Nat.le_refl _) jo, if_neg (by simp)]); exact idxN_miss (fun j h3 h4 => hn j jo jo)
theorem idxN_any (p : Nat → Bool) (n : Nat) : decide (0 ≤ idxN p n 0) = anyN p n := by
 cases e : anyN p n with
 | false =>
  rw [idxN_miss (fun j _ h => anyN_false e j jo)]; rfl
 | true =>
  obtain ⟨k0, H0, H1⟩ := anyN_true e
  obtain ⟨k, hk, hp, hn⟩ : ∃ k, k < n ∧ p k = true ∧ ∀ j, j < k → p j = false := by
   clear e
   induction k0 using Nat.strongRecOn with
   | ind m ih =>
    by_cases h : ∃ j, j < m ∧ p j = true
    ·obtain ⟨j, hj, H2⟩ := h; exact ih j hj jo H2
    exact ⟨m, H0, H1, fun j hj => by
     cases e : p j with
     | false => rfl
     | true => exact absurd ⟨j, hj, e⟩ h⟩
  rw [idxN_hit (i := 0) (n := n) (k := k) jo jo hp (fun j _ h => hn j h)]
  simp
theorem indexFunc_int (v : Value) (n : Nat) (c : Nat → Nat → Value) (p : Nat → Bool) (g : Nat) (lb : Array Value) (w : World) (ha : Arr w v n 1 c)
  (eg : ∀ args w, (callFunc g args).run Tryd.prog w = .ok (.enter g args) w) (hp : PredIn Tryd.prog g lb n (fun i => c i 0) p w) :
  Calls Tryd.prog 71 #[v, .func (.func g) #[] lb] w fun e w' => e = .returned (.int .i64 (idxN p n 0)) ∧ Keeps w w' := by
 obtain ⟨ao, cap, rfl, h1, h2, -, h3⟩ := ha
 unfold maxLen at h2
 have HP := jH hp
 clear hp
 go_enter Tryd.func71, Tryd.ntmps71
 go_wp2
 go_loopw [5, 8] (fun _ s8 wr => ∃ k : Nat, k ≤ n ∧ s8 = .int .i64 k ∧ Keeps w wr ∧ Hid (∀ j, j < k → p j = false)) (fun _ s8 _ => n - (intOf s8).toNat)
 case atStart => exact ⟨0, Nat.zero_le _, rfl, Keeps.refl _, fun j hj => absurd hj (Nat.not_lt_zero _)⟩
 case round =>
 obtain ⟨k, hk, rfl, H1, H2⟩ := hrel
 by_cases hlt : k < n
 ·obtain ⟨b, H4, rfl, hc⟩ := h3 jo
  have c0 := jv wr b (H4 + k) (c k 0) (H1.cell (by simpa using hc k 0 hlt jo))
  have H0 := HP.out wr k hlt H1
  clear hc h3 HP
  simp only [] at H0
  generalize c k 0 = y0 at c0 H0
  cases hq : p k with
  | true =>
   rw [hq] at H0
   have HQ := jH hq
   clear hq
   go_wp2_with (go_at_fn g; refine H0.mono ?_; rintro e w' ⟨rfl, H3⟩)
   go_ret
   refine ⟨?_, H1.trans H3⟩
   rw [idxN_hit (i := 0) (n := n) (k := k) jo jo HQ.out (fun j _ h => H2.out j h)]
   rfl
  | false =>
   rw [hq] at H0
   have HQ := jH hq
   clear hq
   go_wp2_with (go_at_fn g; refine H0.mono ?_; rintro e w' ⟨rfl, H3⟩)
   go_roundw
   case rel =>
    refine ⟨k + 1, by omega, by go_num, H1.trans H3, fun j hj => ?_⟩
    by_cases e : j = k
    ·subst e; exact HQ.out
    exact H2.out j jo
   case measure => exact jm
 clear h3 HP
 go_wp2
 go_ret
 obtain rfl : k = n := by omega
 refine ⟨?_, H1⟩
 rw [idxN_miss (fun j _ h => H2.out j jo)]
 rfl
theorem containsFunc_int (v : Value) (n : Nat) (c : Nat → Nat → Value) (p : Nat → Bool) (g : Nat) (lb : Array Value) (w : World) (ha : Arr w v n 1 c)
  (eg : ∀ args w, (callFunc g args).run Tryd.prog w = .ok (.enter g args) w) (hp : PredIn Tryd.prog g lb n (fun i => c i 0) p w) :
  Calls Tryd.prog 48 #[v, .func (.func g) #[] lb] w fun e w' => e = .returned (.bool (anyN p n)) ∧ Keeps w w' := by
 obtain ⟨HP, HA, EG, HN⟩ := hid4 hp ha eg (idxN_any p n)
 clear hp ha eg
 go_enter Tryd.func48, Tryd.ntmps48
 go_wp2_with fail
 refine (indexFunc_int v n c p g lb _ HA.out EG.out HP.out).mono ?_
 rintro e w' ⟨rfl, H0⟩
 generalize idxN p n 0 = r at HN
 go_wp2
 go_ret
 exact ⟨by rw [← HN.out]; rfl, H0⟩

theorem indexFunc_u8 (v : Value) (n : Nat) (c : Nat → Nat → Value) (p : Nat → Bool) (g : Nat) (lb : Array Value) (w : World) (ha : Arr w v n 1 c)
  (eg : ∀ args w, (callFunc g args).run Tryd.prog w = .ok (.enter g args) w) (hp : PredIn Tryd.prog g lb n (fun i => c i 0) p w) :
  Calls Tryd.prog 98 #[v, .func (.func g) #[] lb] w fun e w' => e = .returned (.int .i64 (idxN p n 0)) ∧ Keeps w w' := by
 obtain ⟨ao, cap, rfl, h1, h2, -, h3⟩ := ha
 unfold maxLen at h2
 have HP := jH hp
 clear hp
 go_enter Tryd.func98, Tryd.ntmps98
 go_wp2
 go_loopw [5, 8] (fun _ s8 wr => ∃ k : Nat, k ≤ n ∧ s8 = .int .i64 k ∧ Keeps w wr ∧ Hid (∀ j, j < k → p j = false)) (fun _ s8 _ => n - (intOf s8).toNat)
 case atStart => exact ⟨0, Nat.zero_le _, rfl, Keeps.refl _, fun j hj => absurd hj (Nat.not_lt_zero _)⟩
 case round =>
 obtain ⟨k, hk, rfl, H1, H2⟩ := hrel
 by_cases hlt : k < n
 ·obtain ⟨b, H4, rfl, hc⟩ := h3 jo
  have c0 := jv wr b (H4 + k) (c k 0) (H1.cell (by simpa using hc k 0 hlt jo))
  have H0 := HP.out wr k hlt H1
  clear hc h3 HP
  simp only [] at H0
  generalize c k 0 = y0 at c0 H0
  cases hq : p k with
  | true =>
   rw [hq] at H0
   have HQ := jH hq
   clear hq
   go_wp2_with (go_at_fn g; refine H0.mono ?_; rintro e w' ⟨rfl, H3⟩)
   go_ret
   refine ⟨?_, H1.trans H3⟩
   rw [idxN_hit (i := 0) (n := n) (k := k) jo jo HQ.out (fun j _ h => H2.out j h)]
   rfl
  | false =>
   rw [hq] at H0
   have HQ := jH hq
   clear hq
   go_wp2_with (go_at_fn g; refine H0.mono ?_; rintro e w' ⟨rfl, H3⟩)
   go_roundw
   case rel =>
    refine ⟨k + 1, by omega, by go_num, H1.trans H3, fun j hj => ?_⟩
    by_cases e : j = k
    ·subst e; exact HQ.out
    exact H2.out j jo
   case measure => exact jm
 clear h3 HP
 go_wp2
 go_ret
 obtain rfl : k = n := by omega
 refine ⟨?_, H1⟩
 rw [idxN_miss (fun j _ h => H2.out j jo)]
 rfl
theorem containsFunc_u8 (v : Value) (n : Nat) (c : Nat → Nat → Value) (p : Nat → Bool) (g : Nat) (lb : Array Value) (w : World) (ha : Arr w v n 1 c)
  (eg : ∀ args w, (callFunc g args).run Tryd.prog w = .ok (.enter g args) w) (hp : PredIn Tryd.prog g lb n (fun i => c i 0) p w) :
  Calls Tryd.prog 91 #[v, .func (.func g) #[] lb] w fun e w' => e = .returned (.bool (anyN p n)) ∧ Keeps w w' := by
 obtain ⟨HP, HA, EG, HN⟩ := hid4 hp ha eg (idxN_any p n)
 clear hp ha eg
 go_enter Tryd.func91, Tryd.ntmps91
 go_wp2_with fail
 refine (indexFunc_u8 v n c p g lb _ HA.out EG.out HP.out).mono ?_
 rintro e w' ⟨rfl, H0⟩
 generalize idxN p n 0 = r at HN
 go_wp2
 go_ret
 exact ⟨by rw [← HN.out]; rfl, H0⟩

theorem indexFunc_fun (v : Value) (n : Nat) (c : Nat → Nat → Value) (p : Nat → Bool) (g : Nat) (lb : Array Value) (w : World) (ha : Arr w v n 3 c)
  (eg : ∀ args w, (callFunc g args).run Tryd.prog w = .ok (.enter g args) w) (hp : PredIn Tryd.prog g lb n (fun i => .agg #[c i 0, c i 1, c i 2]) p w) :
  Calls Tryd.prog 74 #[v, .func (.func g) #[] lb] w fun e w' => e = .returned (.int .i64 (idxN p n 0)) ∧ Keeps w w' := by
 obtain ⟨ao, cap, rfl, h1, h2, -, h3⟩ := ha
 unfold maxLen at h2
 have HP := jH hp
 clear hp
 go_enter Tryd.func74, Tryd.ntmps74
 go_wp2
 go_loopw [5, 8] (fun _ s8 wr => ∃ k : Nat, k ≤ n ∧ s8 = .int .i64 k ∧ Keeps w wr ∧ Hid (∀ j, j < k → p j = false)) (fun _ s8 _ => n - (intOf s8).toNat)
 case atStart => exact ⟨0, Nat.zero_le _, rfl, Keeps.refl _, fun j hj => absurd hj (Nat.not_lt_zero _)⟩
 case round =>
 obtain ⟨k, hk, rfl, H1, H2⟩ := hrel
 by_cases hlt : k < n
 ·obtain ⟨b, H3, rfl, hc⟩ := h3 jo
  have c0 := jv wr b (H3 + k * 3) (c k 0) (H1.cell (hc k 0 hlt jo))
  have c1 := jv wr b (H3 + k * 3 + 1) (c k 1) (H1.cell (hc k 1 hlt jo))
  have c2 := jv wr b (H3 + k * 3 + 2) (c k 2) (H1.cell (hc k 2 hlt jo))
  have H0 := HP.out wr k hlt H1
  clear hc h3 HP
  simp only [] at H0
  generalize c k 0 = y0 at c0 H0
  generalize c k 1 = y1 at c1 H0
  generalize c k 2 = y2 at c2 H0
  cases hq : p k with
  | true =>
   rw [hq] at H0
   have HQ := jH hq
   clear hq
   go_wp2_with (go_at_fn g; refine H0.mono ?_; rintro e w' ⟨rfl, H4⟩)
   go_ret
   refine ⟨?_, H1.trans H4⟩
   rw [idxN_hit (i := 0) (n := n) (k := k) jo jo HQ.out (fun j _ h => H2.out j h)]
   rfl
  | false =>
   rw [hq] at H0
   have HQ := jH hq
   clear hq
   go_wp2_with (go_at_fn g; refine H0.mono ?_; rintro e w' ⟨rfl, H4⟩)
   go_roundw
   case rel =>
    refine ⟨k + 1, by omega, by go_num, H1.trans H4, fun j hj => ?_⟩
    by_cases e : j = k
    ·subst e; exact HQ.out
    exact H2.out j jo
   case measure => exact jm
 clear h3 HP
 go_wp2
 go_ret
 obtain rfl : k = n := by omega
 refine ⟨?_, H1⟩
 rw [idxN_miss (fun j _ h => H2.out j jo)]
 rfl
theorem containsFunc_fun (v : Value) (n : Nat) (c : Nat → Nat → Value) (p : Nat → Bool) (g : Nat) (lb : Array Value) (w : World) (ha : Arr w v n 3 c)
  (eg : ∀ args w, (callFunc g args).run Tryd.prog w = .ok (.enter g args) w) (hp : PredIn Tryd.prog g lb n (fun i => .agg #[c i 0, c i 1, c i 2]) p w) :
  Calls Tryd.prog 57 #[v, .func (.func g) #[] lb] w fun e w' => e = .returned (.bool (anyN p n)) ∧ Keeps w w' := by
 obtain ⟨HP, HA, EG, HN⟩ := hid4 hp ha eg (idxN_any p n)
 clear hp ha eg
 go_enter Tryd.func57, Tryd.ntmps57
 go_wp2_with fail
 refine (indexFunc_fun v n c p g lb _ HA.out EG.out HP.out).mono ?_
 rintro e w' ⟨rfl, H0⟩
 generalize idxN p n 0 = r at HN
 go_wp2
 go_ret
 exact ⟨by rw [← HN.out]; rfl, H0⟩
end Go.Proofs.YtgdamggkaklhjaaDoor
end
section
namespace Go.Proofs.YtgdamggkaklhjaaDoor.BH
open Go.RowKit Go.Maps Go.WideShapes
set_option maxRecDepth 100000
structure MK (P : Program) (t k e : TypeId) {κ ν : Type} (enc : κ → Value) (wf : κ → Prop) (venc : ν → Value) (lit : ν → DataW Unit) (wv : ν → Prop) (z0 : ν) : Prop where
 K : Keyed P k
 ht : P.underlying t = some (.map k e)
 key : ∀ x, wf x → ∃ kl, keyOf P k (enc x) = some kl
 inv : ∀ v kl, keyOf P k v = some kl → ∃ x, wf x ∧ v = enc x
 inj : ∀ x y, enc x = enc y → x = y
 val : ∀ c, wv c → plainElem (H := Unit) P e (venc c) = some (lit c, [])
 vinv : ∀ v y, plainElem (H := Unit) P e v = some y → ∃ c, wv c ∧ v = venc c ∧ y = (lit c, [])
 linj : ∀ c d, lit c = lit d → c = d
 zero : ∀ w, (zeroValue e).run P w = .ok (venc z0) w
 wz : wv z0
section
variable {P : Program} {t k e : TypeId} {κ ν : Type} {enc : κ → Value} {wf : κ → Prop} {venc : ν → Value} {lit : ν → DataW Unit} {wv : ν → Prop} {z0 : ν}
def Tells (P : Program) (k : TypeId) (enc : κ → Value) (wf : κ → Prop) (lit : ν → DataW Unit) (D : DataW Unit) (m : κ → Option ν) : Prop :=
 ∀ x kl, wf x → keyOf P k (enc x) = some kl → Maps.has D kl = (m x).isSome ∧ ∀ c, m x = some c → ∀ zd, D.atKey kl zd = lit c
def MapF (P : Program) (k e : TypeId) (enc : κ → Value) (wf : κ → Prop) (lit : ν → DataW Unit) (w : World) (b n : Nat) (m : κ → Option ν) : Prop :=
 ∃ D : DataW Unit, w.ownsMap P k (plainElem P e) b n D ∧ Tells P k enc wf lit D m
theorem MapF.made (w : World) : MapF P k e enc wf lit (w.alloc (.map #[] 0)) w.heap.size 0 (fun _ => none) :=
 ⟨.map [], World.ownsMap_made w P k _, fun x kl _ _ => ⟨rfl, fun c h => by cases h⟩⟩
theorem MapF.grown {w w' : World} {b n : Nat} {m : κ → Option ν} (h : MapF P k e enc wf lit w b n m) {row : Option Nat} (hg : w.grownBy w' row) (hne : some b ≠ row) : MapF P k e enc wf lit w' b n m := by
 obtain ⟨D, h1, h2⟩ := h
 exact ⟨D, h1.kept hg hne, h2⟩
theorem MapF.keep {w w' : World} {b n : Nat} {m : κ → Option ν} (h : MapF P k e enc wf lit w b n m) (hk : Keeps w w') : MapF P k e enc wf lit w' b n m := h.grown (hk.grown none) (by simp)
theorem MapF.lt {w : World} {b n : Nat} {m : κ → Option ν} (h : MapF P k e enc wf lit w b n m) : b < w.heap.size := by
 obtain ⟨D, h1, -⟩ := h
 exact h1.lt
theorem MapF.mono {w : World} {b n n' : Nat} {m : κ → Option ν} (h : MapF P k e enc wf lit w b n m) (hn : n ≤ n') : MapF P k e enc wf lit w b n' m := by
 obtain ⟨D, h1, h2⟩ := h
 exact ⟨D, h1.mono hn, h2⟩
theorem MapF.look (M : MK P t k e enc wf venc lit wv z0) {w : World} {b n : Nat} {m : κ → Option ν} (h : MapF P k e enc wf lit w b n m) {x : κ} (hx : wf x) (c : Bool) :
  (Instr.lookup t (.map (some b)) (enc x) c).run P w = .ok (if c then .tuple #[venc ((m x).getD z0), .bool (m x).isSome] else venc ((m x).getD z0)) w ∧ wv ((m x).getD z0) := by
 obtain ⟨D, ⟨es, H3, hb, F, hs, rfl⟩, hm⟩ := h
 obtain ⟨kl, H1⟩ := M.key x hx
 obtain ⟨h1, h2⟩ := hm x kl hx H1
 rcases Maps.fit_look c M.K M.ht (M.zero w) hb F H1 with ⟨H0, _, H2⟩ | ⟨e0, y, _, _, H0, H5, H2, _⟩
 ·have hf := Maps.has_false_of_atKey H2
  rw [hf] at h1
  have hn : m x = none := by
   cases hmx : m x with
   | none => rfl
   | some c => rw [hmx] at h1; cases h1
  rw [hn]
  exact ⟨H0, M.wz⟩
 have hf := Maps.has_true_of_atKey H2
 rw [hf] at h1
 obtain ⟨c0, H4⟩ := Option.isSome_iff_exists.1 h1.symm
 obtain ⟨c1, H6, H7, H8⟩ := M.vinv _ _ H5
 have e1 := h2 c0 H4 .nil
 rw [H2 .nil, H8] at e1
 have e2 := M.linj _ _ e1
 subst e2
 rw [H4]
 rw [H7] at H0
 exact ⟨H0, H6⟩
theorem MapF.put [DecidableEq κ] (M : MK P t k e enc wf venc lit wv z0) {w : World} {b n : Nat} {m : κ → Option ν} (h : MapF P k e enc wf lit w b n m) (hn : n < maxLen) {x : κ} (hx : wf x) {c : ν} (hc : wv c) :
  ∃ w', (Instr.mapUpdate t (.map (some b)) (enc x) (venc c)).run P w = .ok () w' ∧ MapF P k e enc wf lit w' b (n + 1) (fun y => if y = x then some c else m y) ∧ w.grownBy w' (some b) := by
 obtain ⟨D, h1, h2⟩ := h
 obtain ⟨kl, H0⟩ := M.key x hx
 obtain ⟨w', H1, ho, hg⟩ := h1.update M.K M.ht hn H0 (M.val c hc)
 refine ⟨w', H1, ⟨_, ho, fun y kl' hy hkey' => ?_⟩, hg⟩
 by_cases q : y = x
 ·subst q
  obtain rfl := Option.some.inj (H0.symm.trans hkey')
  dsimp only
  rw [if_pos rfl]
  refine ⟨Maps.has_put_same h1.isMap (M.K.key H0) _, fun c' hc' zd => ?_⟩
  obtain rfl := Option.some.inj hc'
  exact Maps.atKey_put_same h1.isMap (M.K.key H0) _ zd
 have H2 : kl' ≠ kl := fun e => q (M.inj _ _ (M.K.inj hkey' (by rw [e]; exact H0)))
 dsimp only
 rw [if_neg q, Maps.has_put_other H2]
 obtain ⟨g1, g2⟩ := h2 y kl' hy hkey'
 exact ⟨g1, fun c' hc' zd => by rw [Maps.atKey_put_other H2]; exact g2 c' hc' zd⟩
def MapRg (P : Program) (k e : TypeId) (enc : κ → Value) (wf : κ → Prop) (lit : ν → DataW Unit) (w : World) (b r n : Nat) (m : κ → Option ν) (left : κ → Bool) (cnt : Nat) : Prop :=
 ∃ (D : DataW Unit) (lf : Lit → Bool), w.ranges P k (plainElem P e) b r n D lf cnt ∧ Tells P k enc wf lit D m ∧ ∀ x kl, wf x → keyOf P k (enc x) = some kl → lf kl = left x
theorem MapRg.grown {w w' : World} {b r n cnt : Nat} {m : κ → Option ν} {left : κ → Bool} (h : MapRg P k e enc wf lit w b r n m left cnt) {row : Option Nat} (hg : w.grownBy w' row) (h1 : some b ≠ row) (h2 : some r ≠ row) : MapRg P k e enc wf lit w' b r n m left cnt := by
 obtain ⟨D, lf, g1, g2, g3⟩ := h
 exact ⟨D, lf, g1.kept hg h1 h2, g2, g3⟩
theorem MapRg.keep {w w' : World} {b r n cnt : Nat} {m : κ → Option ν} {left : κ → Bool} (h : MapRg P k e enc wf lit w b r n m left cnt) (hk : Keeps w w') : MapRg P k e enc wf lit w' b r n m left cnt := h.grown (hk.grown none) (by simp) (by simp)
theorem MapRg.lt {w : World} {b r n cnt : Nat} {m : κ → Option ν} {left : κ → Bool} (h : MapRg P k e enc wf lit w b r n m left cnt) : b < w.heap.size ∧ r < w.heap.size := by
 obtain ⟨D, lf, g1, -⟩ := h
 exact ⟨g1.owns.lt, g1.lt⟩
theorem MapF.range (M : MK P t k e enc wf venc lit wv z0) {w : World} {b n : Nat} {m : κ → Option ν} (h : MapF P k e enc wf lit w b n m) :
  ∃ w' cnt, (Instr.range t (.map (some b))).run P w = .ok (.pointer (some ⟨w.heap.size, 0, none⟩)) w' ∧ MapRg P k e enc wf lit w' b w.heap.size n m (fun x => (m x).isSome) cnt ∧ w.grownBy w' none ∧ w'.heap.size = w.heap.size + 1 := by
 obtain ⟨D, h1, h2⟩ := h
 obtain ⟨w', H0, hr, hg, hs⟩ := h1.range M.K M.ht
 exact ⟨w', _, H0, ⟨D, _, hr, h2, fun x kl hx hkey => (h2 x kl hx hkey).1⟩, hg, hs⟩
theorem MapRg.next [DecidableEq κ] (M : MK P t k e enc wf venc lit wv z0) {w : World} {b r n cnt : Nat} {m : κ → Option ν} {left : κ → Bool} (h : MapRg P k e enc wf lit w b r n m left cnt) (ty : TypeId) :
  (cnt = 0 ∧ (∀ x, wf x → left x = false) ∧ (Instr.next (.pointer (some ⟨r, 0, none⟩)) false ty).run P w = .ok (.tuple #[.bool false]) w) ∨
  ∃ x c w' cnt', wf x ∧ wv c ∧ left x = true ∧ m x = some c ∧ (Instr.next (.pointer (some ⟨r, 0, none⟩)) false ty).run P w = .ok (.tuple #[.bool true, enc x, venc c]) w' ∧
   MapRg P k e enc wf lit w' b r n m (fun z => left z && !decide (z = x)) cnt' ∧ cnt' < cnt ∧ w.grownBy w' (some r) ∧ w'.heap.size = w.heap.size ∧ (Instr.entry (.pointer (some ⟨r, 0, none⟩))).run P w' = .ok (.tuple #[enc x, venc c]) w' := by
 obtain ⟨D, lf, h1, h2, h3⟩ := h
 rcases h1.next M.K ty with ⟨h0, hl, H1⟩ | ⟨key, v, kl, y, w', cnt', H0, H4, hv, H2, H1, H5, H6, H7, H8, H9⟩
 ·refine Or.inl ⟨h0, fun x hx => ?_, H1⟩
  obtain ⟨kl, hk⟩ := M.key x hx
  rw [← h3 x kl hx hk]
  exact hl kl
 obtain ⟨x, hx, rfl⟩ := M.inv _ _ H0
 obtain ⟨c, Ha, rfl, rfl⟩ := M.vinv _ _ hv
 obtain ⟨g1, g2⟩ := h2 x kl hx H0
 have hh := Maps.has_true_of_atKey H2
 rw [hh] at g1
 obtain ⟨c0, H3⟩ := Option.isSome_iff_exists.1 g1.symm
 have e1 := g2 c0 H3 .nil
 rw [H2 .nil] at e1
 have e2 := M.linj _ _ e1
 subst e2
 refine Or.inr ⟨x, c, w', cnt', hx, Ha, by rw [← h3 x kl hx H0]; exact H4, H3, H1, ⟨D, _, H5, h2, fun z kz hz hkz => ?_⟩, H6, H7, H8, H9⟩
 show (lf kz && !kz.sameKey kl) = (left z && !decide (z = x))
 rw [h3 z kz hz hkz]
 congr 2
 by_cases q : z = x
 ·subst q
  obtain rfl := Option.some.inj (H0.symm.trans hkz)
  rw [decide_eq_true rfl]
  exact WideAt.sameKey_self (M.K.key H0)
 rw [decide_eq_false q]
 exact Maps.sameKey_ne fun e => q (M.inj _ _ (M.K.inj hkz (by rw [e]; exact H0)))
end
section
variable {P : Program} {t k e : TypeId} {κ ν : Type} {enc : κ → Value} {wf : κ → Prop} {venc : ν → Value} {lit : ν → DataW Unit} {wv : ν → Prop} {z0 : ν}
variable (w : World) {ops : Array Oper} {rest : List Oper} {o : Oper} {a : Act} {Q : Exit → Act → World → Prop}
theorem wpList_look_ok (hg : o.guard = none) (m x : Operand) (hop : o.op = Op.lookup t m x true) (M : MK P t k e enc wf venc lit wv z0) (b n : Nat) (mf : κ → Option ν)
  (hm : a.eval m = .map (some b)) (h : MapF P k e enc wf lit w b n mf) (y : κ) (hx : a.eval x = enc y) (hy : wf y)
  (hK : wpList P ops Q rest (a.put o.dst (.tuple #[venc ((mf y).getD z0), .bool (mf y).isSome])) w) : wpList P ops Q (o :: rest) a w := by
 refine wpList_plain hg fun K' hK' => ?_
 have H0 := (h.look M hy true).1
 unfold Oper.wp
 simp [execOp, hop, hm, hx, H0, Result.andThen]
 exact hK' _ _ hK
theorem wpList_look (hg : o.guard = none) (m x : Operand) (hop : o.op = Op.lookup t m x false) (M : MK P t k e enc wf venc lit wv z0) (b n : Nat) (mf : κ → Option ν)
  (hm : a.eval m = .map (some b)) (h : MapF P k e enc wf lit w b n mf) (y : κ) (hx : a.eval x = enc y) (hy : wf y)
  (hK : wpList P ops Q rest (a.put o.dst (venc ((mf y).getD z0))) w) : wpList P ops Q (o :: rest) a w := by
 refine wpList_plain hg fun K' hK' => ?_
 have H0 := (h.look M hy false).1
 unfold Oper.wp
 simp [execOp, hop, hm, hx, H0, Result.andThen]
 exact hK' _ _ hK
theorem wpList_put [DecidableEq κ] (hg : o.guard = none) (m x v : Operand) (hop : o.op = Op.mapUpdate t m x v) (M : MK P t k e enc wf venc lit wv z0) (b n : Nat) (mf : κ → Option ν)
  (hm : a.eval m = .map (some b)) (h : MapF P k e enc wf lit w b n mf) (hn : n < maxLen) (y : κ) (hx : a.eval x = enc y) (hy : wf y) (c : ν) (hv : a.eval v = venc c) (hc : wv c)
  (hK : ∀ w', MapF P k e enc wf lit w' b (n + 1) (fun z => if z = y then some c else mf z) → w.grownBy w' (some b) → wpList P ops Q rest (a.put o.dst undef) w') : wpList P ops Q (o :: rest) a w := by
 refine wpList_plain hg fun K' hK' => ?_
 obtain ⟨w', H0, h1, h2⟩ := h.put M hn hy hc
 unfold Oper.wp
 simp [execOp, hop, hm, hx, hv, H0, Result.andThen]
 exact hK' _ _ (hK w' h1 h2)
end
def litI (c : Int) : DataW Unit := .lit (.int .i64 c)
def wfI (c : Int) : Prop := (Lit.int .i64 c).wf = true
theorem wfI_of {c : Int} (h0 : -9223372036854775808 ≤ c) (h1 : c ≤ 9223372036854775807) : wfI c := by
 unfold wfI Lit.wf
 simp
 first | omega | exact ⟨h0, h1⟩ | (refine ⟨?_, ?_⟩ <;> omega) | skip
end Go.Proofs.YtgdamggkaklhjaaDoor.BH
end
