/-
emit in plain terms: items, which of them are long, the prog
-/
import Derived.Test.YtgdamggkaklhjaaDoorFlRecP
set_option linter.all false
section
namespace Go.Proofs.YtgdamggkaklhjaaDoor
open BH
set_option maxRecDepth 100000
structure It where
 I : Ic
 Bl : Int
 Fn : Int
 Old : Int
 Li : Int
 deriving Inhabited
def oppK (K : Int) : Int := if K = 18 then 19 else if K = 19 then 18 else if K = 20 then 21 else 20
def cIt (b : Bk) (k : Nat) : It :=
 if (nth b.Code k).K = 23 then ⟨{ nth b.Code k with N := 0 }, -1, (nth b.Code k).N, nth b.At k, nth b.Lines k⟩
 else ⟨nth b.Code k, -1, -1, nth b.At k, nth b.Lines k⟩
def jI : Ic := ⟨22, 0, 0, 0, 0, false⟩
def tIt (b : Bk) (nx : Int) : List It :=
 if b.Ends = 2 then (if b.To = nx then [] else [⟨jI, b.To, -1, -1, nth b.Lines b.Code.length⟩])
 else if b.Ends = 3 then (if b.To = nx then [] else [⟨jI, b.To, -1, nth b.At b.Code.length, nth b.Lines b.Code.length⟩])
 else if b.Ends = 4 then
  (if b.To = nx ∧ ¬ b.Else = nx then [⟨{ b.Last with K := oppK b.Last.K }, b.Else, -1, nth b.At b.Code.length, nth b.Lines b.Code.length⟩]
  else ⟨b.Last, b.To, -1, nth b.At b.Code.length, nth b.Lines b.Code.length⟩ :: (if b.Else = nx then [] else [⟨jI, b.Else, -1, -1, nth b.Lines b.Code.length⟩]))
 else []
def bIts (b : Bk) (nx : Int) : List It := (List.range b.Code.length).map (cIt b) ++ tIt b nx
def nxt (B : List Int) (k : Nat) : Int := if k + 1 < B.length then nth B (k + 1) else -1
structure Ly where
 its : List It
 fst : List Int
 beg : List Int
 deriving Inhabited
def layB (f : Fl) (B : List Int) (s : Ly) (k : Nat) : Ly := ⟨s.its ++ bIts (nth f.Blocks (nth B k).toNat) (nxt B k), s.fst.set (nth B k).toNat s.its.length, s.beg⟩
def layBs (f : Fl) (B : List Int) (s : Ly) (k : Nat) : Ly := (List.range k).foldl (layB f B) s
def begP (s : Ly) (p : Pa) : Ly := { s with beg := s.beg.set p.Func.toNat s.its.length }
def layP (f : Fl) (s : Ly) (p : Pa) : Ly := layBs f p.Blocks (begP s p) p.Blocks.length
def ly0 (f : Fl) : Ly := ⟨[], List.replicate f.Blocks.length 0, List.replicate f.Firsts.length 0⟩
def layK (f : Fl) (l : List Pa) (k : Nat) : Ly := (List.range k).foldl (fun s i => layP f s (nth l i)) (ly0 f)
theorem layBs_succ (f : Fl) (B : List Int) (s : Ly) (k : Nat) : layBs f B s (k + 1) = layB f B (layBs f B s k) k := by
 unfold layBs
 rw [List.range_succ, List.foldl_append]
 rfl
theorem layK_zero (f : Fl) (l : List Pa) : layK f l 0 = ly0 f := rfl
theorem layK_succ (f : Fl) (l : List Pa) (k : Nat) : layK f l (k + 1) = layP f (layK f l k) (nth l k) := by
 unfold layK
 rw [List.range_succ, List.foldl_append]
 rfl
def lay (f : Fl) (l : List Pa) : Ly := layK f l l.length
def seenB (l : List Pa) (i k : Nat) : List Int := (l.take i).flatMap (·.Blocks) ++ (nth l i).Blocks.take k
def blkBad (f : Fl) (l : List Pa) (i k : Nat) : Bool :=
 decide (nth (nth l i).Blocks k < 0 ∨ (f.Blocks.length : Int) ≤ nth (nth l i).Blocks k ∨ nth (nth l i).Blocks k ∈ seenB l i k ∨ ¬ (nth f.Blocks (nth (nth l i).Blocks k).toNat).Func = (nth l i).Func)
def headBad (f : Fl) (l : List Pa) (i : Nat) : Bool :=
 decide ((nth l i).Func < 0 ∨ (f.Firsts.length : Int) ≤ (nth l i).Func ∨ (nth l i).Blocks.length = 0 ∨ ¬ nth (nth l i).Blocks 0 = nth f.Firsts (nth l i).Func.toNat)
def partBad (f : Fl) (l : List Pa) (i : Nat) : Bool := headBad f l i || anyN (blkBad f l i) (nth l i).Blocks.length
def fitP (f : Fl) (l : List Pa) : Bool := decide (l.length = f.Firsts.length) && (!anyN (partBad f l) l.length && decide ((l.flatMap (·.Blocks)).length = f.Blocks.length))
def szI (i : Ic) : Int := insSize i.K.toNat i.Lg
def adI (its : List It) : Nat → Int
 | 0 => 0
 | k + 1 => adI its k + szI (nth its k).I
def dsI (its : List It) (fst : List Int) (k : Nat) : Int := adI its (nth fst (nth its k).Bl.toNat).toNat - adI its k
def farI (its : List It) (fst : List Int) (k : Nat) : Bool :=
 decide (0 ≤ (nth its k).Bl) && (!(nth its k).I.Lg && (decide (dsI its fst k < -128) || decide (127 < dsI its fst k)))
def lngI (t : It) (b : Bool) : It := { t with I := { t.I with Lg := t.I.Lg || b } }
def rndK (its : List It) (fst : List Int) (k : Nat) : List It := (List.range its.length).map fun j => lngI (nth its j) (decide (j < k) && farI its fst j)
def rnd (its : List It) (fst : List Int) : List It := rndK its fst its.length
def anyFar (its : List It) (fst : List Int) : Bool := anyN (farI its fst) its.length
def setl (fst : List Int) : Nat → List It → List It
 | 0, its => its
 | n + 1, its => if anyFar its fst = true then setl fst n (rnd its fst) else its
def finI (its : List It) (fst beg : List Int) (k : Nat) : Ic :=
 if 0 ≤ (nth its k).Bl then { (nth its k).I with N := dsI its fst k }
 else if 0 ≤ (nth its k).Fn then { (nth its k).I with N := adI its (nth beg (nth its k).Fn.toNat).toNat - adI its k }
 else (nth its k).I
theorem lngI_no (t : It) : lngI t false = t := by
 obtain ⟨⟨a, b, c, d, e, g⟩, h, i, j, k⟩ := t
 simp [lngI]
theorem rndK_len (its : List It) (fst : List Int) (k : Nat) : (rndK its fst k).length = its.length := by simp [rndK]
theorem rndK_nth {its : List It} {fst : List Int} {k j : Nat} (h : j < its.length) : nth (rndK its fst k) j = lngI (nth its j) (decide (j < k) && farI its fst j) := nthRange _ h
end Go.Proofs.YtgdamggkaklhjaaDoor
end
section
namespace Go.Proofs.YtgdamggkaklhjaaDoor
open Go.RowKit BH
set_option maxHeartbeats 100000000
set_option maxRecDepth 100000
theorem zeroI9 (w : World) : (zeroValue 3).run Tryd.prog w = .ok (.int .i64 0) w := by kernel_rfl
theorem zeroB9 (w : World) : (zeroValue 4).run Tryd.prog w = .ok (.bool false) w := by kernel_rfl
theorem MKII : MK Tryd.prog 76 3 3 (fun x : Int => .int .i64 x) wfI (fun c : Int => .int .i64 c) litI wfI 0 :=
 mk_ii Tryd.underlying76 Tryd.underlying3 Tryd.underlying3 zeroI9
theorem MKIB : MK Tryd.prog 77 3 4 (fun x : Int => .int .i64 x) wfI (fun c : Bool => .bool c) litB (fun _ => True) false :=
 mk_ib Tryd.underlying77 Tryd.underlying3 Tryd.underlying4 zeroB9
abbrev MII (w : World) (b n : Nat) (m : Int → Option Int) : Prop := MapF Tryd.prog 3 3 (fun x : Int => .int .i64 x) wfI litI w b n m
theorem stops_any (K D A B N : Int) (Lg : Bool) (w : World) : Calls Tryd.prog 53 #[insV K D A B N Lg] w fun e w' => e = .returned (.bool (stN K)) ∧ Keeps w w' := by
 unfold insV stN
 by_cases h : K ≤ 3
 ·have t0 : decide (K ≤ 3) = true := decide_eq_true h
  rw [t0]
  clear h
  go_enter Tryd.func53, Tryd.ntmps53
  go_wp2_with fail
  go_ret
  exact ⟨rfl, (Keeps.refl _).alloc _⟩
 have t0 : decide (K ≤ 3) = false := decide_eq_false h
 obtain ⟨z, hz⟩ := jE ((K == 24))
 have hd : decide (K = 24) = z := by rw [hz]; rfl
 rw [t0, hd]
 have hz' := hz.symm
 clear h hz hd
 go_enter Tryd.func53, Tryd.ntmps53
 go_wp2_with fail
 go_ret
 exact ⟨rfl, (Keeps.refl _).alloc _⟩
theorem branch_any (K D A B N : Int) (Lg : Bool) (w : World) : Calls Tryd.prog 54 #[insV K D A B N Lg] w fun e w' => e = .returned (.bool (brN K)) ∧ Keeps w w' := by
 unfold insV brN
 by_cases h : 18 ≤ K
 ·have t0 : decide (18 ≤ K) = true := decide_eq_true h
  obtain ⟨z, hz⟩ : ∃ z, decide (K ≤ 21) = z := ⟨_, rfl⟩
  rw [t0, hz]
  clear h
  go_enter Tryd.func54, Tryd.ntmps54
  go_wp2_with fail
  go_ret
  exact ⟨by simp, (Keeps.refl _).alloc _⟩
 have t0 : decide (18 ≤ K) = false := decide_eq_false h
 rw [t0]
 clear h
 go_enter Tryd.func54, Tryd.ntmps54
 go_wp2_with fail
 go_ret
 exact ⟨by simp, (Keeps.refl _).alloc _⟩
theorem inside_any {xb ob n : Nat} {om : Int → Option Int} {f x : Int} {w : World} (hc : w.cell? ⟨xb, 7, none⟩ = some (.map (some ob))) (hm : MII w ob n om) (hx : wfI x) :
  Calls Tryd.prog 55 #[.pointer (some ⟨xb, 0, none⟩), .int .i64 f, .int .i64 x] w fun e w' => e = .returned (.bool (decide (om x = some f))) ∧ w = w' := by
 obtain ⟨HM, HX⟩ := hid2 hm hx
 clear hm hx
 cases hom : om x with
 | none =>
  have hd : decide ((none : Option Int) = some f) = false := by simp
  rw [hd]
  have e1 : (om x).getD 0 = 0 := by rw [hom]; rfl
  have e2 : (om x).isSome = false := by rw [hom]; rfl
  obtain ⟨E1, E2⟩ := hid2 e1 e2
  clear hom e1 e2 hd
  go_enter Tryd.func55, Tryd.ntmps55
  go_wp2_with (at_lookup; refine wpList_look_ok _ rfl (.tmp 13) (.tmp 14) rfl MKII ob n om rfl HM.out x rfl HX.out ?_; rw [E1.out, E2.out])
  go_ret
  exact ⟨rfl, rfl⟩
 | some g =>
  obtain ⟨z, hz⟩ : ∃ z, (g == f) = z := ⟨_, rfl⟩
  have hd : decide (some g = some f) = z := by rw [← hz]; simp only [Option.some.injEq]; rfl
  rw [hd]
  have e1 : (om x).getD 0 = g := by rw [hom]; rfl
  have e2 : (om x).isSome = true := by rw [hom]; rfl
  obtain ⟨E1, E2⟩ := hid2 e1 e2
  clear hom e1 e2 hd
  go_enter Tryd.func55, Tryd.ntmps55
  go_wp2_with (at_lookup; refine wpList_look_ok _ rfl (.tmp 13) (.tmp 14) rfl MKII ob n om rfl HM.out x rfl HX.out ?_; rw [E1.out, E2.out])
  go_ret
  exact ⟨rfl, rfl⟩
theorem mark1_any {xb xp fp ob n : Nat} {om : Int → Option Int} {f x : Int} {w : World} (hp : w.cell? ⟨xp, 0, none⟩ = some (.pointer (some ⟨xb, 0, none⟩))) (hf : w.cell? ⟨fp, 0, none⟩ = some (.int .i64 f)) (hc : w.cell? ⟨xb, 7, none⟩ = some (.map (some ob))) (hm : MII w ob n om) (hx : wfI x) :
  Calls Tryd.prog 56 #[.int .i64 x, .pointer (some ⟨xp, 0, none⟩), .pointer (some ⟨fp, 0, none⟩)] w fun e w' => e = .returned (.bool (!decide (om x = some f))) ∧ w = w' := by
 have HI := jH (inside_any (f := f) hc hm hx)
 clear hc hm hx
 obtain ⟨z, hz⟩ : ∃ z, decide (om x = some f) = z := ⟨_, rfl⟩
 rw [hz] at HI ⊢
 go_enter Tryd.func56, Tryd.ntmps56
 go_wp2_with (go_at_call 55; refine HI.out.mono ?_; rintro e wa ⟨rfl, rfl⟩)
 go_ret
 exact ⟨rfl, rfl⟩
theorem mark2_any {tp : Nat} {x y z : Int} {s : ByteArray} {w : World} (hp : w.cell? ⟨tp, 0, none⟩ = some (.int .i64 x)) :
  Calls Tryd.prog 58 #[.agg #[.string s, .int .i64 y, .int .i64 z], .pointer (some ⟨tp, 0, none⟩)] w fun e w' => e = .returned (.bool (decide (y = x))) ∧ Keeps w w' := by
 have hl := lt_of_cell hp
 go_enter Tryd.func58, Tryd.ntmps58
 go_wp2_with fail
 go_ret
 exact ⟨rfl, (Keeps.refl _).alloc _⟩
end Go.Proofs.YtgdamggkaklhjaaDoor
end
section
namespace Go.Proofs.YtgdamggkaklhjaaDoor
open BH
set_option maxRecDepth 100000
theorem Chain.apart : ∀ {l : List Sp} {a e : Int}, Chain a l e → ∀ s ∈ l, ∀ t ∈ l, s.A < t.A → s.A + s.Z ≤ t.A
 | [], _, _, _, s, hs, _, _, _ => by cases hs
 | x :: r, a, e, h, s, hs, t, ht, hq => by
  obtain ⟨h1, h2, h3⟩ := h
  rcases List.mem_cons.1 hs with e1 | q1 <;> rcases List.mem_cons.1 ht with e2 | q2
  ·rw [e1, e2] at hq; omega
  ·have := Chain.mem h3 t q2; rw [e1]; omega
  ·have := Chain.mem h3 s q1; rw [e2] at hq; omega
  exact Chain.apart h3 s q1 t q2 hq
def cntL (m : Img) : Nat → Nat
 | 0 => 0
 | n + 1 => cntL m n + (if isL m n = true then 1 else 0)
def plR (m : Img) (x : Int) : Int := if isL m x = true ∧ 0 ≤ x ∧ x < m.Text.length then (cntL m x.toNat : Int) else 0
theorem cntL_skip {m : Img} {a : Nat} : ∀ {d : Nat}, (∀ x : Nat, a ≤ x → x < a + d → isL m x = false) → cntL m (a + d) = cntL m a
 | 0, _ => rfl
 | d + 1, h => by (show cntL m (a + d) + (if isL m ((a + d : Nat) : Int) = true then 1 else 0) = _); (rw [h (a + d) jo jo, if_neg jd, cntL_skip (fun x h1 h2 => h x h1 jo)]); rfl
theorem cntL_step {m : Img} {a Z : Int} (h0 : 0 ≤ a) (hz : 1 ≤ Z) (hn : ∀ x : Int, a < x → x < a + Z → isL m x = false) : cntL m (a + Z).toNat = cntL m a.toNat + (if isL m a = true then 1 else 0) := by
 obtain ⟨n, rfl⟩ := Int.eq_ofNat_of_zero_le h0
 obtain ⟨d, rfl⟩ : ∃ d : Nat, Z = (d : Int) + 1 := ⟨(Z - 1).toNat, by omega⟩
 rw [show ((n : Int) + ((d : Int) + 1)).toNat = (n + 1) + d by omega, cntL_skip (a := n + 1) (fun x h1 h2 => hn x jo jo), Int.toNat_natCast]
 rfl
theorem modL_len (bs : List Bk) (g : Bk → Bk) : (modL bs g).length = bs.length := by simp [modL]
theorem cut_inv {m : Img} : ∀ (l : List (Nat × Sp)) (a e : Int) (c : Cut), Chain a (l.map (·.2)) e → 0 ≤ a → c.bs.length = cntL m a.toNat → (∀ x, c.bm x = if isL m x = true ∧ 0 ≤ x ∧ x < a then some (cntL m x.toNat : Int) else none) →
  (∀ p ∈ l, ∀ x : Int, p.2.A < x → x < p.2.A + p.2.Z → isL m x = false) →
  (l.foldl (fun c p => cutS m p.1 c p.2) c).bs.length = cntL m e.toNat ∧ ∀ x, (l.foldl (fun c p => cutS m p.1 c p.2) c).bm x = if isL m x = true ∧ 0 ≤ x ∧ x < e then some (cntL m x.toNat : Int) else none
 | [], a, e, c, h, _, h1, h2, _ => by simp only [List.map_nil, Chain] at h; subst h; exact ⟨h1, h2⟩
 | p :: r, a, e, c, h, h0, h1, h2, h3 => by
  simp only [List.map_cons, Chain] at h
  obtain ⟨e1, e2, e3⟩ := h
  have hs := cntL_step (m := m) (a := a) (Z := p.2.Z) h0 e2 (fun x q1 q2 => h3 p (List.mem_cons_self ..) x jo jo)
  refine cut_inv r (a + p.2.Z) e (cutS m p.1 c p.2) e3 jo ?_ (fun x => ?_) (fun q hq => h3 q (List.mem_cons_of_mem _ hq))
  ·rw [hs, ← h1]
   unfold cutS
   rw [e1]
   by_cases hl : isL m a = true
   ·rw [if_pos hl, if_pos hl]
    dsimp only
    rw [modL_len, List.length_append, List.length_singleton]
   rw [if_neg hl, if_neg hl]
   dsimp only
   rw [modL_len]
   rfl
  unfold cutS
  rw [e1]
  by_cases hx : a < x ∧ x < a + p.2.Z
  ·have hx2 := h3 p (List.mem_cons_self ..) x jo jo
   have hr : (if isL m x = true ∧ 0 ≤ x ∧ x < a + p.2.Z then some (cntL m x.toNat : Int) else none) = none := if_neg (by rw [hx2]; simp)
   have hr2 : (if isL m x = true ∧ 0 ≤ x ∧ x < a then some (cntL m x.toNat : Int) else none) = none := if_neg (by rw [hx2]; simp)
   rw [hr]
   by_cases hl : isL m a = true
   ·rw [if_pos hl]
    dsimp only
    unfold putI
    rw [if_neg (show ¬ x = a by omega), h2, hr2]
   rw [if_neg hl]
   dsimp only
   rw [h2, hr2]
  by_cases hl : isL m a = true
  ·rw [if_pos hl]
   dsimp only
   unfold putI
   by_cases hxa : x = a
   ·subst hxa
    rw [if_pos rfl, if_pos ⟨hl, h0, by omega⟩, h1]
   rw [if_neg hxa, h2]
   by_cases q : isL m x = true ∧ 0 ≤ x ∧ x < a
   ·rw [if_pos q, if_pos ⟨q.1, q.2.1, by omega⟩]
   rw [if_neg q, if_neg (fun z => q ⟨z.1, z.2.1, by omega⟩)]
  rw [if_neg hl]
  dsimp only
  rw [h2]
  by_cases q : isL m x = true ∧ 0 ≤ x ∧ x < a
  ·rw [if_pos q, if_pos ⟨q.1, q.2.1, by omega⟩]
  rw [if_neg q, if_neg]
  intro z
  by_cases hxa : x = a
  ·subst hxa; exact hl z.1
  exact q ⟨z.1, z.2.1, by omega⟩
section
variable {m : Img}
theorem Followed.inside (h : Followed m) {p : Nat × Sp} (hp : p ∈ annS (allS m) m.Funcs.length) : ∀ x : Int, p.2.A < x → x < p.2.A + p.2.Z → isL m x = false := by
 intro x h1 h2
 cases e : isL m x with
 | false => rfl
 | true =>
  exfalso
  have hc := h.chain
  have hm := hc.mem p.2 (List.mem_map.2 ⟨p, hp, rfl⟩)
  obtain ⟨q, hq, e2⟩ := h.lead e jo
  have := hc.apart p.2 (List.mem_map.2 ⟨p, hp, rfl⟩) q.2 (List.mem_map.2 ⟨q, hq, rfl⟩) jo
  omega
theorem annS_sub {L : List (List Sp)} {k n : Nat} (h : k ≤ n) {p : Nat × Sp} (hp : p ∈ annS L k) : p ∈ annS L n := mem_annS.2 ⟨by have := (mem_annS.1 hp).1; omega, (mem_annS.1 hp).2⟩
theorem Followed.cut (h : Followed m) {k : Nat} (hk : k ≤ m.Funcs.length) : (cutF m k).bs.length = cntL m (sumF m k).toNat ∧ ∀ x, (cutF m k).bm x = if isL m x = true ∧ 0 ≤ x ∧ x < sumF m k then some (cntL m x.toNat : Int) else none := by
 rw [cutF_is]
 refine cut_inv _ 0 _ _ (ann_chain h.good h.sw k hk) (Int.le_refl _) rfl (fun x => ?_) (fun p hp => h.inside (annS_sub hk hp))
 rw [if_neg jo]
theorem Followed.place (h : Followed m) (x : Int) : ((cutF m m.Funcs.length).bm x).getD 0 = plR m x := by
 rw [(h.cut (Nat.le_refl _)).2 x, h.good.sum]
 unfold plR
 split <;> rfl
theorem Followed.firsts (h : Followed m) {i : Nat} (hi : i < m.Funcs.length) : ((cutF m i).bs.length : Int) = plR m (nth m.Funcs i).Start := by
 have hf := (h.good.func i hi).2.2
 obtain ⟨p, hp, e, -⟩ := h.first hi
 have hm := h.chain.mem p.2 (List.mem_map.2 ⟨p, hp, rfl⟩)
 rw [(h.cut (k := i) jo).1]
 unfold plR
 rw [if_pos ⟨isL_iff.2 (Or.inr (Or.inl ⟨i, hi, rfl⟩)), by omega, by omega⟩, hf.1]
end
def newR (f a : Int) : Bk := ⟨f, a, [], [], zIc, 0, 0, 0, []⟩
def pbR (m : Img) (s : Sp) (b : Bk) : Bk :=
 if brN s.I.K = true then { b with At := b.At ++ [s.A], Lines := b.Lines ++ [lineAt m.Lines s.A m.Lines.length], Ends := 4, Last := ⟨s.I.K, 0, s.I.A, s.I.B, 0, false⟩, To := plR m (s.A + s.I.N), Else := plR m (s.A + s.Z) }
 else if s.I.K = 22 then { b with At := b.At ++ [s.A], Lines := b.Lines ++ [lineAt m.Lines s.A m.Lines.length], Ends := 3, To := plR m (s.A + s.I.N) }
 else if stN s.I.K = true then { b with At := b.At ++ [s.A], Lines := b.Lines ++ [lineAt m.Lines s.A m.Lines.length] ++ [lineAt m.Lines s.A m.Lines.length], Code := b.Code ++ [plainI m s], Ends := 1 }
 else if isL m (s.A + s.Z) = true then { b with At := b.At ++ [s.A], Lines := b.Lines ++ [lineAt m.Lines s.A m.Lines.length] ++ [lineAt m.Lines s.A m.Lines.length], Code := b.Code ++ [plainI m s], Ends := 2, To := plR m (s.A + s.Z) }
 else { b with At := b.At ++ [s.A], Lines := b.Lines ++ [lineAt m.Lines s.A m.Lines.length], Code := b.Code ++ [plainI m s], Ends := 0 }
def gR (m : Img) : List (Nat × Sp) → List Bk → Option Bk → List Bk
 | [], cl, _ => cl
 | p :: r, cl, ob => if (pbR m p.2 (ob.getD (newR p.1 p.2.A))).Ends = 0 then gR m r cl (some (pbR m p.2 (ob.getD (newR p.1 p.2.A)))) else gR m r (cl ++ [pbR m p.2 (ob.getD (newR p.1 p.2.A))]) none
def flR (m : Img) : Fl :=
 ⟨gR m (annS (allS m) m.Funcs.length) [] none, m.Tables.map fun t => t.map (plR m), (List.range m.Funcs.length).map fun i => plR m (nth m.Funcs i).Start⟩
def opB (b : Bk) : Bk := { b with Ends := 0, To := 0 }
theorem modL_app (l : List Bk) (x : Bk) (g : Bk → Bk) : modL (l ++ [x]) g = l ++ [g x] := by
 unfold modL
 rw [List.length_append, List.length_singleton, Nat.add_sub_cancel, nth_eq _ _ (by simp)]
 simp
theorem nth_snocL (l : List Int) (x : Int) : nth (l ++ [x]) ((l ++ [x]).length - 1) = x := by
 rw [nth_eq _ _ (by simp)]; simp
theorem brN_st {K : Int} (h : brN K = true) : ¬ stN K = true := by
 unfold brN at h; unfold stN
 simp only [Bool.and_eq_true, decide_eq_true_eq, Bool.or_eq_true] at h ⊢
 omega
theorem endsN_st {K : Int} (h : stN K = true) : endsN K ≠ 0 := by unfold endsN; rw [if_pos h]; decide
theorem endsN_j {K : Int} (h : K = 22) : endsN K ≠ 0 := by subst h; decide
theorem endsN_br {K : Int} (h : brN K = true) : endsN K ≠ 0 := by
 unfold endsN
 rw [if_neg (brN_st h), h]
 split <;> decide
theorem pb_step {m : Img} {B : Int → Option Int} (hB : ∀ x, (B x).getD 0 = plR m x) (s : Sp) (bc : Bk) (h2 : bc.Ends = 2) (hn : endsN s.I.K ≠ 0 → isL m (s.A + s.Z) = true) :
  (isL m (s.A + s.Z) = true → (pbR m s (opB bc)).Ends ≠ 0 ∧ pbR m s (opB bc) = joinB B (pbS m s bc)) ∧
  (isL m (s.A + s.Z) = false → (pbR m s (opB bc)).Ends = 0 ∧ pbR m s (opB bc) = opB (pbS m s bc) ∧ (pbS m s bc).Ends = 2) := by
 unfold pbR pbS
 by_cases h1 : brN s.I.K = true
 ·rw [if_pos h1, if_pos h1]
  refine ⟨fun _ => ⟨by dsimp only; decide, ?_⟩, fun q => absurd (hn (endsN_br h1)) (by rw [q]; decide)⟩
  unfold joinB opB
  simp [hB]
 rw [if_neg h1, if_neg h1]
 by_cases h22 : s.I.K = 22
 ·rw [if_pos h22, if_pos h22]
  refine ⟨fun _ => ⟨by dsimp only; decide, ?_⟩, fun q => absurd (hn (endsN_j h22)) (by rw [q]; decide)⟩
  unfold joinB opB
  simp [hB]
 rw [if_neg h22, if_neg h22]
 by_cases hst : stN s.I.K = true
 ·rw [if_pos hst, if_pos hst]
  refine ⟨fun _ => ⟨by dsimp only; decide, ?_⟩, fun q => absurd (hn (endsN_st hst)) (by rw [q]; decide)⟩
  unfold joinB opB
  dsimp only
  rw [nth_snocL]
  simp
 rw [if_neg hst, if_neg hst]
 by_cases hl : isL m (s.A + s.Z) = true
 ·rw [if_pos hl]
  refine ⟨fun _ => ⟨by dsimp only; decide, ?_⟩, fun q => absurd hl (by rw [q]; decide)⟩
  unfold joinB opB
  dsimp only
  rw [nth_snocL, h2]
  simp [hB]
 rw [if_neg hl]
 exact ⟨fun q => absurd q hl, fun _ => ⟨rfl, rfl, h2⟩⟩
theorem gR_is {m : Img} {B : Int → Option Int} (hB : ∀ x, (B x).getD 0 = plR m x) {e : Int} (he : isL m e = true) : ∀ (l : List (Nat × Sp)) (a : Int), Chain a (l.map (·.2)) e → (∀ p ∈ l, endsN p.2.I.K ≠ 0 → isL m (p.2.A + p.2.Z) = true) → ∀ c : Cut,
  (isL m a = true → gR m l (c.bs.map (joinB B)) none = (l.foldl (fun c p => cutS m p.1 c p.2) c).bs.map (joinB B)) ∧
  (isL m a = false → ∀ pre bc, c.bs = pre ++ [bc] → bc.Ends = 2 → gR m l (pre.map (joinB B)) (some (opB bc)) = (l.foldl (fun c p => cutS m p.1 c p.2) c).bs.map (joinB B))
 | [], a, h, _, c => by simp only [List.map_nil, Chain] at h; subst h; exact ⟨fun _ => rfl, fun q => by rw [he] at q; cases q⟩
 | p :: r, a, h, hn, c => by
  simp only [List.map_cons, Chain] at h
  obtain ⟨e1, e2, e3⟩ := h
  have hnp := hn p (List.mem_cons_self ..)
  have ih := gR_is hB he r (a + p.2.Z) e3 (fun q hq => hn q (List.mem_cons_of_mem _ hq)) (cutS m p.1 c p.2)
  have key : ∀ (pre : List Bk) (bc : Bk), bc.Ends = 2 → (cutS m p.1 c p.2).bs = pre ++ [pbS m p.2 bc] → ∀ ob : Option Bk, ob.getD (newR p.1 p.2.A) = opB bc →
    gR m (p :: r) (pre.map (joinB B)) ob = (r.foldl (fun c p => cutS m p.1 c p.2) (cutS m p.1 c p.2)).bs.map (joinB B) := by
   intro pre bc h2 H0 ob H1
   obtain ⟨s1, s2⟩ := pb_step hB p.2 bc h2 hnp
   rw [e1] at s1 s2
   unfold gR
   rw [H1]
   cases hl : isL m (a + p.2.Z) with
   | true =>
    obtain ⟨q1, q2⟩ := s1 hl
    rw [if_neg q1, q2, ← ih.1 hl, H0, List.map_append]
    rfl
   | false =>
    obtain ⟨q1, q2, q3⟩ := s2 hl
    rw [if_pos q1, q2]
    exact ih.2 hl pre _ H0 q3
  refine ⟨fun hl => ?_, fun hl pre bc H0 h2 => ?_⟩
  ·refine key c.bs (newB p.1 p.2.A) rfl ?_ none rfl
   unfold cutS
   rw [e1, if_pos hl]
   dsimp only
   rw [modL_app]
  refine key pre bc h2 ?_ (some (opB bc)) rfl
  unfold cutS
  rw [e1, if_neg (by rw [hl]; decide)]
  dsimp only
  rw [H0, modL_app]
theorem flR_is {m : Img} (h : Followed m) : flR m = recF m := by
 have hp := h.place
 have h0 : isL m 0 = true := by (have hn : 0 < m.Funcs.length := by have := h.good.entry; omega); exact isL_iff.2 (Or.inr (Or.inl ⟨0, hn, by rw [(h.good.func 0 hn).2.2.1]; rfl⟩))
 have hb := (gR_is (B := (cutF m m.Funcs.length).bm) hp (e := m.Text.length) h.isL_end (annS (allS m) m.Funcs.length) 0 h.chain (fun p hp2 he => h.isL_next hp2 he) ⟨[], fun _ => none⟩).1 h0
 rw [← cutF_is] at hb
 unfold flR recF
 rw [show gR m (annS (allS m) m.Funcs.length) [] none = _ from hb]
 congr 1
 ·exact List.map_congr_left fun t _ => List.map_congr_left fun a _ => (hp a).symm
 exact List.map_congr_left fun i hi => (h.firsts (List.mem_range.1 hi)).symm
end Go.Proofs.YtgdamggkaklhjaaDoor
end
