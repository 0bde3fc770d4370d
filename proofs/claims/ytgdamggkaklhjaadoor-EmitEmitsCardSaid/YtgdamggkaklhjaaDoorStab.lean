/-
The stable sort of the library, in plain Lean: runs, rotatio
-/
import Derived.Sort.LotA
import Derived.Sort.LotD2
set_option linter.all false
namespace Go.Proofs.YtgdamggkaklhjaaDoor
open Go.Sort
variable {α : Type} [Inhabited α]

def Via (σ : Nat → Nat) (d d' : Array α) : Prop := d'.size = d.size ∧ ∀ x, d'[x]! = d[σ x]!

theorem Via.trans {σ τ : Nat → Nat} {d d' d'' : Array α} (h : Via σ d d') (h' : Via τ d' d'') : Via (fun x => σ (τ x)) d d'' :=
 ⟨by rw [h'.1, h.1], fun x => by rw [h'.2, h.2]⟩
theorem Via.congr {σ τ : Nat → Nat} {d d' : Array α} (h : Via σ d d') (e : ∀ x, σ x = τ x) : Via τ d d' := ⟨h.1, fun x => by rw [h.2, e]⟩

structure Runs (lt' lt : α → α → Bool) (a m b : Nat) (d : Array α) : Prop where
 am : a < m
 mb : m < b
 bd : b ≤ d.size
 sl : SortedIn lt' a m d
 sr : SortedIn lt' m b d
 ag : ∀ i j, a ≤ i → i < m → m ≤ j → j < b → lt' d[j]! d[i]! = lt d[j]! d[i]!

def Merged (lt' : α → α → Bool) (a b : Nat) (d d' : Array α) : Prop := PermIn a b d d' ∧ SortedIn lt' a b d'

section
variable {lt' lt : α → α → Bool} {a m b : Nat} {d d' : Array α}

theorem Via.at {σ : Nat → Nat} (h : Via σ d d') (x y : Nat) (e : σ x = y) : d'[x]! = d[y]! := by rw [h.2, e]

structure SCut (lt' lt : α → α → Bool) (a s mid e b : Nat) (d : Array α) : Prop where
 as : a ≤ s
 sm : s ≤ mid
 me : mid ≤ e
 eb : e ≤ b
 bd : b ≤ d.size
 s1 : SortedIn lt' a s d
 s2 : SortedIn lt' s mid d
 s3 : SortedIn lt' mid e d
 s4 : SortedIn lt' e b d
 g1 : ∀ i j, a ≤ i → i < s → s ≤ j → j < mid → lt' d[j]! d[i]! = lt d[j]! d[i]!
 g2 : ∀ i j, mid ≤ i → i < e → e ≤ j → j < b → lt' d[j]! d[i]! = lt d[j]! d[i]!
 lo : ∀ x y, a ≤ x → x < mid → mid ≤ y → y < b → lt' d[y]! d[x]! = false

theorem SCut.left {s mid e : Nat} (C : SCut lt' lt a s mid e b d) (h1 : a < s) (h2 : s < mid) : Runs lt' lt a s mid d := ⟨h1, h2, by have := C.me; have := C.eb; have := C.bd; omega, C.s1, C.s2, C.g1⟩
theorem SCut.right {s mid e : Nat} (C : SCut lt' lt a s mid e b d) (hp : PermIn a mid d d') (h1 : mid < e) (h2 : e < b) : Runs lt' lt mid e b d' := by
 have h : ∀ x, mid ≤ x → d'[x]! = d[x]! := fun x hx => hp.2.1 x (Or.inr hx)
 refine ⟨h1, h2, by rw [hp.1]; exact C.bd, fun i j p1 p2 p3 => ?_, fun i j p1 p2 p3 => ?_, fun i j p1 p2 p3 p4 => ?_⟩
 ·rw [h i p1, h j (by omega)]; exact C.s3 i j p1 p2 p3
 ·rw [h i (by omega), h j (by omega)]; exact C.s4 i j p1 p2 p3
 rw [h i (by omega), h j (by omega)]; exact C.g2 i j p1 p2 p3 p4
end

def lexLt (lt : α → α → Bool) (rk : α → Nat) (x y : α) : Bool := lt x y || (!lt y x && decide (rk x < rk y))

omit [Inhabited α] in
theorem lexLt_swo {lt : α → α → Bool} (S : SWO lt) (rk : α → Nat) : SWO (lexLt lt rk) := by
 refine ⟨fun x => by simp [lexLt, S.irrefl], fun x y z h1 h2 => ?_, fun x y z h1 h2 => ?_⟩
 ·have t1 := S.trans x y z
  have t2 := S.ntrans x y z
  have t3 := S.ntrans z y x
  have t4 := S.ntrans y x z
  have t5 := S.ntrans z x y
  have t6 := S.ntrans y z x
  have t7 := S.ntrans x z y
  have a1 := fun h : lt x y = true => S.asymmA h
  have a2 := fun h : lt y z = true => S.asymmA h
  have a3 := fun h : lt x z = true => S.asymmA h
  unfold lexLt at *
  cases xy : lt x y <;> cases yx : lt y x <;> cases yz : lt y z <;> cases zy : lt z y <;> cases xz : lt x z <;> cases zx : lt z x <;> simp_all
  all_goals omega
 have t1 := S.trans x y z
 have t2 := S.ntrans x y z
 have t3 := S.ntrans z y x
 have t4 := S.ntrans y x z
 have t5 := S.ntrans z x y
 have t6 := S.ntrans y z x
 have t7 := S.ntrans x z y
 have a1 := fun h : lt x y = true => S.asymmA h
 have a2 := fun h : lt y z = true => S.asymmA h
 have a3 := fun h : lt x z = true => S.asymmA h
 unfold lexLt at *
 cases xy : lt x y <;> cases yx : lt y x <;> cases yz : lt y z <;> cases zy : lt z y <;> cases xz : lt x z <;> cases zx : lt z x <;> simp_all
 all_goals omega

section
variable {lt lt0 : α → α → Bool} {rk : α → Nat} {Q : α → Prop}

omit [Inhabited α] in
theorem lexLt_up {x y : α} (h : rk x < rk y) : lexLt lt0 rk y x = lt0 y x := by
 unfold lexLt
 simp [show ¬ rk y < rk x by omega]

def Agr (lt lt0 : α → α → Bool) (rk : α → Nat) (Q : α → Prop) : Prop := ∀ x y, Q x → Q y → rk x ≠ rk y → lt x y = lt0 x y

def Seg (lt0 : α → α → Bool) (rk : α → Nat) (Q : α → Prop) (s e : Nat) (d : Array α) : Prop := SortedIn (lexLt lt0 rk) s e d ∧ ∀ i, s ≤ i → i < e → s ≤ rk d[i]! ∧ rk d[i]! < e ∧ Q d[i]!

theorem Seg.congr {s e : Nat} {d d' : Array α} (h : Seg lt0 rk Q s e d) (he : ∀ i, s ≤ i → i < e → d'[i]! = d[i]!) : Seg lt0 rk Q s e d' :=
 ⟨h.1.congr he, fun i p q => by rw [he i p q]; exact h.2 i p q⟩

theorem Seg.runs (A : Agr lt lt0 rk Q) {s m e : Nat} {d : Array α} (h1 : Seg lt0 rk Q s m d) (h2 : Seg lt0 rk Q m e d) (p : s < m) (q : m < e) (hb : e ≤ d.size) : Runs (lexLt lt0 rk) lt s m e d :=
 ⟨p, q, hb, h1.1, h2.1, fun i j a b c f => by have k1 := h1.2 i a b; have k2 := h2.2 j c f; rw [lexLt_up (by omega), A _ _ k2.2.2 k1.2.2 (by omega)]⟩

theorem Seg.merged {s m e : Nat} {d d' : Array α} (h1 : Seg lt0 rk Q s m d) (h2 : Seg lt0 rk Q m e d) (p : s < m) (q : m < e) (hb : e ≤ d.size) (h : Merged (lexLt lt0 rk) s e d d') : Seg lt0 rk Q s e d' := by
 refine ⟨h.2, permIn_all d d' s e (fun z => s ≤ rk z ∧ rk z < e ∧ Q z) hb h.1 (fun i a b => ?_)⟩
 by_cases c : i < m
 ·have := h1.2 i a c
  exact ⟨this.1, by omega, this.2.2⟩
 have := h2.2 i (by omega) b
 exact ⟨by omega, this.2⟩

theorem insInner_lex (A : Agr lt lt0 rk Q) (a : Nat) : ∀ (j : Nat) (d : Array α), j < d.size → (∀ p, a ≤ p → p < j → rk d[p]! < rk d[j]!) → (∀ p, a ≤ p → p ≤ j → Q d[p]!) → insInner lt a j d = insInner (lexLt lt0 rk) a j d
 | 0, _, _, _, _ => rfl
 | j + 1, d, hj, h, hq => by
  unfold insInner
  by_cases hc : j + 1 > a
  ·have hr := h j (by omega) (by omega)
   have e : lexLt lt0 rk d[j + 1]! d[j]! = lt d[j + 1]! d[j]! := by rw [lexLt_up hr, A _ _ (hq (j + 1) (by omega) (Nat.le_refl _)) (hq j (by omega) (by omega)) (by omega)]
   rw [e]
   by_cases hl : lt d[j + 1]! d[j]! = true
   ·rw [if_pos (by simp [hc, hl]), if_pos (by simp [hc, hl])]
    refine insInner_lex A a j (swp d (j + 1) j) (by rw [swp_size]; omega) (fun p p1 p2 => ?_) (fun p p1 p2 => ?_)
    ·rw [swp_get d hj (by omega), swp_get d hj (by omega), if_neg (by omega), if_neg (by omega), if_pos rfl]
     exact h p p1 (by omega)
    rw [swp_get d hj (by omega)]
    split
    ·exact hq _ (by omega) (Nat.le_refl _)
    rw [if_neg (by omega)]
    exact hq p p1 (by omega)
   rw [if_neg (by simp [hl]), if_neg (by simp [hl])]
  rw [if_neg (by simp [hc]), if_neg (by simp [hc])]

theorem insOuter_lex (A : Agr lt lt0 rk Q) (S : SWO lt0) (a b : Nat) : ∀ (n i : Nat) (d : Array α), b - i = n → a < i → i ≤ b → b ≤ d.size → SortedIn (lexLt lt0 rk) a i d → (∀ p q, a ≤ p → p < q → i ≤ q → q < b → rk d[p]! < rk d[q]!) → (∀ p, a ≤ p → p < b → Q d[p]!) → insOuter lt a b i d = insOuter (lexLt lt0 rk) a b i d
 | 0, i, d, hn, _, hib, _, _, _, _ => by (obtain rfl : i = b := by omega); rw [insOuter, if_neg (by omega), insOuter, if_neg (by omega)]
 | n + 1, i, d, hn, hai, hib, hb, hs, hr, hq => by
  have hlt : i < b := by omega
  rw [insOuter.eq_def lt, if_pos hlt, insOuter.eq_def (lexLt lt0 rk), if_pos hlt, insInner_lex A a i d (by omega) (fun p p1 p2 => hr p i p1 p2 (Nat.le_refl _) hlt) (fun p p1 p2 => hq p p1 (by omega))]
  have h1 := insInner_spec (lexLt_swo S rk) swp_permIn permIn_refl permIn_trans a (i + 1) i (by omega) i d (by omega) (Nat.le_refl _) (by omega) ⟨fun p q hap hpq hqi _ hq => hs p q hap hpq (by omega), fun q h1 h2 => by omega⟩
  refine insOuter_lex A S a b n (i + 1) _ (by omega) (by omega) (by omega) (by rw [h1.1.1]; exact hb) h1.2 (fun p q p1 p2 p3 p4 => ?_) (fun p p1 p2 => ?_)
  ·rw [h1.1.2.1 q (Or.inr p3)]
   by_cases c : p < i + 1
   ·exact permIn_all d _ a (i + 1) (fun z => rk z < rk d[q]!) (by omega) h1.1 (fun x x1 x2 => hr x q x1 (by omega) (by omega) p4) p p1 c
   rw [h1.1.2.1 p (Or.inr (by omega))]
   exact hr p q p1 p2 (by omega) p4
  by_cases c : p < i + 1
  ·exact permIn_all d _ a (i + 1) Q (by omega) h1.1 (fun x x1 x2 => hq x x1 (by omega)) p p1 c
  rw [h1.1.2.1 p (Or.inr (by omega))]
  exact hq p p1 p2

theorem ins_seg (A : Agr lt lt0 rk Q) (S : SWO lt0) {d : Array α} {a b : Nat} (hab : a ≤ b) (hb : b ≤ d.size) (hr : ∀ i, a ≤ i → i < b → rk d[i]! = i ∧ Q d[i]!) : PermIn a b d (insertionSort lt d a b) ∧ Seg lt0 rk Q a b (insertionSort lt d a b) := by
 have e : insertionSort lt d a b = insertionSort (lexLt lt0 rk) d a b := by
  unfold insertionSort
  by_cases h : a = b
  ·subst h
   rw [insOuter, if_neg (by omega), insOuter, if_neg (by omega)]
  exact insOuter_lex A S a b _ (a + 1) d rfl (by omega) (by omega) hb (fun i j h1 h2 h3 => by omega) (fun p q p1 p2 p3 p4 => by rw [(hr p p1 (by omega)).1, (hr q (by omega) p4).1]; exact p2) (fun p p1 p2 => (hr p p1 p2).2)
 rw [e]
 have h := insertionSort_holds (lexLt_swo S rk) d a b hab hb
 refine ⟨h.1, h.2, permIn_all d _ a b (fun z => a ≤ rk z ∧ rk z < b ∧ Q z) hb h.1 (fun i p q => ?_)⟩
 rw [(hr i p q).1]
 exact ⟨p, q, (hr i p q).2⟩

def SegsFrom (lt0 : α → α → Bool) (rk : α → Nat) (Q : α → Prop) (B k0 n : Nat) (d : Array α) : Prop := ∀ k, k0 ≤ k → k * B < n → Seg lt0 rk Q (k * B) (min (k * B + B) n) d
def SegsTo (lt0 : α → α → Bool) (rk : α → Nat) (Q : α → Prop) (B k1 n : Nat) (d : Array α) : Prop := ∀ k, k < k1 → k * B < n → Seg lt0 rk Q (k * B) (min (k * B + B) n) d

structure Ins1 (lt0 : α → α → Bool) (rk : α → Nat) (Q : α → Prop) (k n : Nat) (d0 d : Array α) : Prop where
 perm : PermIn 0 n d0 d
 done : SegsTo lt0 rk Q 20 k n d
 rest : ∀ i, k * 20 ≤ i → i < n → rk d[i]! = i ∧ Q d[i]!

theorem Ins1.start {d0 : Array α} {n : Nat} (h : ∀ i, i < n → rk d0[i]! = i ∧ Q d0[i]!) : Ins1 lt0 rk Q 0 n d0 d0 := ⟨permIn_refl _ _ _, fun k h => by omega, fun i _ hi => h i hi⟩
theorem Ins1.next (A : Agr lt lt0 rk Q) (S : SWO lt0) {k n : Nat} {d0 d : Array α} (h : Ins1 lt0 rk Q k n d0 d) (hn : d0.size = n) (hk : k * 20 + 20 ≤ n) : Ins1 lt0 rk Q (k + 1) n d0 (insertionSort lt d (k * 20) (k * 20 + 20)) := by
 have hs : d.size = n := by rw [h.perm.1, hn]
 obtain ⟨hp, hg⟩ := ins_seg A S (d := d) (a := k * 20) (b := k * 20 + 20) (by omega) (by omega) (fun i p q => h.rest i p (by omega))
 refine ⟨permIn_trans _ _ _ 0 n h.perm (permIn_mono _ _ _ _ 0 n (by omega) hk (by omega) hp), fun j hj hjn => ?_, fun i p q => ?_⟩
 ·by_cases e : j = k
  ·subst e; rw [Nat.min_eq_left hk]; exact hg
  exact (h.done j (by omega) hjn).congr (fun i p q => hp.2.1 i (Or.inl (by omega)))
 rw [hp.2.1 i (Or.inr (by omega))]
 exact h.rest i (by omega) q
theorem Ins1.last (A : Agr lt lt0 rk Q) (S : SWO lt0) {k n : Nat} {d0 d : Array α} (h : Ins1 lt0 rk Q k n d0 d) (hn : d0.size = n) (hk : k * 20 ≤ n) (hk2 : n < k * 20 + 20) : PermIn 0 n d0 (insertionSort lt d (k * 20) n) ∧ SegsFrom lt0 rk Q 20 0 n (insertionSort lt d (k * 20) n) := by
 have hs : d.size = n := by rw [h.perm.1, hn]
 obtain ⟨hp, hg⟩ := ins_seg A S (d := d) (a := k * 20) (b := n) (by omega) (by omega) (fun i p q => h.rest i p (by omega))
 refine ⟨permIn_trans _ _ _ 0 n h.perm (permIn_mono _ _ _ _ 0 n (by omega) (Nat.le_refl _) (by omega) hp), fun j _ hjn => ?_⟩
 by_cases e : j = k
 ·subst e; rw [Nat.min_eq_right (by omega)]; exact hg
 exact (h.done j (by omega) hjn).congr (fun i p q => hp.2.1 i (Or.inl (by omega)))

structure Pass (lt0 : α → α → Bool) (rk : α → Nat) (Q : α → Prop) (B q n : Nat) (d0 d : Array α) : Prop where
 perm : PermIn 0 n d0 d
 done : SegsTo lt0 rk Q (2 * B) q n d
 rest : SegsFrom lt0 rk Q B (2 * q) n d

theorem two_mul_q (q B : Nat) : 2 * q * B = q * (2 * B) := by rw [Nat.mul_comm 2 q, Nat.mul_assoc]
theorem two_mul_q1 (q B : Nat) : (2 * q + 1) * B = q * (2 * B) + B := by rw [Nat.add_mul, two_mul_q, Nat.one_mul]

theorem Pass.start {B n : Nat} {d0 d : Array α} (hp : PermIn 0 n d0 d) (h : SegsFrom lt0 rk Q B 0 n d) : Pass lt0 rk Q B 0 n d0 d := ⟨hp, fun k h => by omega, fun k _ hk => h k (Nat.zero_le _) hk⟩
theorem Pass.runs (A : Agr lt lt0 rk Q) {B q n : Nat} {d0 d : Array α} (h : Pass lt0 rk Q B q n d0 d) (hn : d0.size = n) (hB : 0 < B) (hm : q * (2 * B) + B < n) : Runs (lexLt lt0 rk) lt (q * (2 * B)) (q * (2 * B) + B) (min (q * (2 * B) + 2 * B) n) d := by
 have h1 := h.rest (2 * q) (Nat.le_refl _) (by rw [two_mul_q]; omega)
 have h2 := h.rest (2 * q + 1) (by omega) (by rw [two_mul_q1]; omega)
 rw [two_mul_q, Nat.min_eq_left (by omega)] at h1
 rw [two_mul_q1, show q * (2 * B) + B + B = q * (2 * B) + 2 * B by omega] at h2
 exact h1.runs A h2 (by omega) (by omega) (by rw [h.perm.1, hn]; omega)
theorem Pass.next {B q n : Nat} {d0 d d' : Array α} (h : Pass lt0 rk Q B q n d0 d) (hn : d0.size = n) (hB : 0 < B) (hm : q * (2 * B) + B < n) (hM : Merged (lexLt lt0 rk) (q * (2 * B)) (min (q * (2 * B) + 2 * B) n) d d') : Pass lt0 rk Q B (q + 1) n d0 d' := by
 have hs : d.size = n := by rw [h.perm.1, hn]
 have h1 := h.rest (2 * q) (Nat.le_refl _) (by rw [two_mul_q]; omega)
 have h2 := h.rest (2 * q + 1) (by omega) (by rw [two_mul_q1]; omega)
 rw [two_mul_q, Nat.min_eq_left (by omega)] at h1
 rw [two_mul_q1, show q * (2 * B) + B + B = q * (2 * B) + 2 * B by omega] at h2
 have hg := h1.merged h2 (by omega) (by omega) (by omega) hM
 have hp := hM.1
 refine ⟨permIn_trans _ _ _ 0 n h.perm (permIn_mono _ _ _ _ 0 n (by omega) (by omega) (by omega) hp), fun j hj hjn => ?_, fun j hj hjn => ?_⟩
 ·by_cases e : j = q
  ·subst e; exact hg
  have := Nat.mul_le_mul_right (2 * B) (show j + 1 ≤ q by omega)
  rw [Nat.add_mul, Nat.one_mul] at this
  exact (h.done j (by omega) hjn).congr (fun i p q => hp.2.1 i (Or.inl (by omega)))
 have := Nat.mul_le_mul_right B (show 2 * q + 2 ≤ j by omega)
 rw [Nat.add_mul, two_mul_q] at this
 exact (h.rest j (by omega) hjn).congr (fun i p q => hp.2.1 i (Or.inr (by omega)))
end

def leOf (lt : α → α → Bool) (x y : α) : Bool := !lt y x
end Go.Proofs.YtgdamggkaklhjaaDoor
