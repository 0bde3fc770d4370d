/-
Maps from ints to ints, from ints to bools, from pairs of in
-/
import Derived.Test.YtgdamggkaklhjaaDoorMapF
import Derived.Test.YtgdamggkaklhjaaDoorWpOf
set_option linter.all false
section
namespace Go.Proofs.YtgdamggkaklhjaaDoor.BH
open Go.RowKit Go.Maps Go.WideShapes
set_option maxRecDepth 100000
variable {P : Program} {t k e : TypeId}
theorem mk_ii (ht : P.underlying t = some (.map k e)) (hk : P.underlying k = some (.int .i64)) (he : P.underlying e = some (.int .i64)) (hz : ∀ w, (zeroValue e).run P w = .ok (.int .i64 0) w) :
  MK P t k e (fun x : Int => .int .i64 x) wfI (fun c : Int => .int .i64 c) litI wfI 0 where
 K := int_keyed hk
 ht := ht
 key x hx := ⟨_, keyOf_int_mk hk hx⟩
 inv v kl h := by obtain ⟨x, rfl, _, hx⟩ := Maps.keyOf_int_inv hk h; exact ⟨x, hx, rfl⟩
 inj x y h := by injection h
 val c hc := plainElem_int he hc
 vinv v y h := by obtain ⟨c, rfl, rfl, hc⟩ := plainElem_int_inv he h; exact ⟨c, hc, rfl, rfl⟩
 linj c d h := by unfold litI at h; injection h with h; injection h
 zero := hz
 wz := wfI_of jd jd
def litB (c : Bool) : DataW Unit := .lit (.bool c)
theorem mk_ib (ht : P.underlying t = some (.map k e)) (hk : P.underlying k = some (.int .i64)) (he : P.underlying e = some .bool) (hz : ∀ w, (zeroValue e).run P w = .ok (.bool false) w) :
  MK P t k e (fun x : Int => .int .i64 x) wfI (fun c : Bool => .bool c) litB (fun _ => True) false where
 K := int_keyed hk
 ht := ht
 key x hx := ⟨_, keyOf_int_mk hk hx⟩
 inv v kl h := by obtain ⟨x, rfl, _, hx⟩ := Maps.keyOf_int_inv hk h; exact ⟨x, hx, rfl⟩
 inj x y h := by injection h
 val c _ := plainElem_bool he c
 vinv v y h := by
  unfold plainElem at h
  rw [he] at h
  cases v <;> simp at h
  exact ⟨_, trivial, rfl, h.symm⟩
 linj c d h := by unfold litB at h; injection h with h; injection h
 zero := hz
 wz := trivial
end Go.Proofs.YtgdamggkaklhjaaDoor.BH
end
section
namespace Go.Proofs.YtgdamggkaklhjaaDoor.BH
open Go.RowKit

def Foot (S : Nat → Prop) (P : World → Prop) (w : World) : Prop := (∀ b, S b → b < w.heap.size) ∧ ∀ w', (∀ b, S b → w'.heap[b]? = w.heap[b]?) → P w'
theorem Foot.here {S : Nat → Prop} {P : World → Prop} {w : World} (h : Foot S P w) : P w := h.2 w fun _ _ => rfl
theorem Foot.move {S : Nat → Prop} {P : World → Prop} {w w' : World} (h : Foot S P w) (hs : w.heap.size ≤ w'.heap.size) (he : ∀ b, S b → w'.heap[b]? = w.heap[b]?) : Foot S P w' :=
 ⟨fun b hb => Nat.lt_of_lt_of_le (h.1 b hb) hs, fun w2 h2 => h.2 w2 fun b hb => (h2 b hb).trans (he b hb)⟩
theorem Foot.grown {S : Nat → Prop} {P : World → Prop} {w w' : World} {row : Option Nat} (h : Foot S P w) (hg : w.grownBy w' row) (hne : ∀ b, S b → row ≠ some b) : Foot S P w' :=
 h.move hg.size fun b hb => hg.block b (h.1 b hb) fun e => hne b hb e.symm
theorem Foot.keep {S : Nat → Prop} {P : World → Prop} {w w' : World} (h : Foot S P w) (hk : Keeps w w') : Foot S P w' := h.grown (hk.grown none) fun _ _ e => by cases e
theorem Foot.none (w : World) : Foot (fun _ => False) (fun _ => True) w := ⟨fun _ h => h.elim, fun _ _ => trivial⟩
theorem Foot.and {S T : Nat → Prop} {P Q : World → Prop} {w : World} (h : Foot S P w) (k : Foot T Q w) : Foot (fun b => S b ∨ T b) (fun w => P w ∧ Q w) w :=
 ⟨fun b hb => hb.elim (h.1 b) (k.1 b), fun w' h' => ⟨h.2 w' fun b hb => h' b (Or.inl hb), k.2 w' fun b hb => h' b (Or.inr hb)⟩⟩
theorem Foot.imp {S : Nat → Prop} {P Q : World → Prop} {w : World} (h : Foot S P w) (hpq : ∀ w, P w → Q w) : Foot S Q w := ⟨h.1, fun w' h' => hpq w' (h.2 w' h')⟩
theorem Foot.sub {S T : Nat → Prop} {P : World → Prop} {w : World} (h : Foot S P w) (hst : ∀ b, S b → T b) (ht : ∀ b, T b → b < w.heap.size) : Foot T P w := ⟨ht, fun w' h' => h.2 w' fun b hb => h' b (hst b hb)⟩

theorem cell_of_heap {w w' : World} {b o : Nat} (h : w'.heap[b]? = w.heap[b]?) : w'.cell? ⟨b, o, none⟩ = w.cell? ⟨b, o, none⟩ := World.cell?_of_block (a := ⟨b, o, none⟩) h
theorem Arr.foot {w : World} {v : Value} {n k : Nat} {c : Nat → Nat → Value} (h : Arr w v n k c) (hk : 0 < k) : Foot (fun b => 0 < n ∧ v.ownBlock = some b) (fun w => Arr w v n k c) w := by
 obtain ⟨ao, H1, rfl, h1, h2, h4, h3⟩ := h
 refine ⟨fun b ⟨hn, hb⟩ => ?_, fun w' h' => ⟨ao, H1, rfl, h1, h2, h4, fun hn => ?_⟩⟩
 ·obtain ⟨b', H0, rfl, hc⟩ := h3 hn
  cases hb
  have h2 := lt_of_cell (hc 0 0 hn hk)
  exact h2
 obtain ⟨b', H0, rfl, hc⟩ := h3 hn
 exact ⟨b', H0, rfl, fun i j hi hj => (cell_of_heap (h' b' ⟨hn, rfl⟩)).trans (hc i j hi hj)⟩
theorem Own.foot {α : Type} {w : World} {base : Nat} {e : TypeId} {k : Nat} {f : α → List Value} {v : Value} {l : List α} (h : Own w base e k f v l) : Foot (fun b => v.ownBlock = some b) (fun w => Own w base e k f v l) w := by
 obtain ⟨h1, h2⟩ := h
 rcases h2 with h2 | ⟨g, cap, cur, hv, hb, hg, r⟩
 ·refine ⟨fun b hb => ?_, fun w' _ => ⟨h1, Or.inl h2⟩⟩
  rw [h2.1] at hb; cases hb
 refine ⟨fun b hb' => ?_, fun w' h' => ⟨h1, Or.inr ⟨g, cap, cur, hv, hb, ?_, r⟩⟩⟩
 ·rw [hv] at hb'; cases hb'; exact lt_of_block hg
 rw [h' g (by rw [hv]; rfl)]; exact hg

theorem own_lt' {α : Type} {w : World} {base : Nat} {e : TypeId} {k : Nat} {f : α → List Value} {v : Value} {l : List α} (h : Own w base e k f v l) {b : Nat} (hb : v.ownBlock = some b) : b < w.heap.size := h.foot.1 b hb
theorem own_form' {α : Type} {w : World} {base : Nat} {e : TypeId} {k : Nat} {f : α → List Value} {v : Value} {l : List α} (h : Own w base e k f v l) : ∃ a c, v = .slice a l.length c := by
 rcases h.2 with ⟨rfl, h0⟩ | ⟨g', cap, cur, rfl, _⟩
 ·exact ⟨_, _, by rw [h0]⟩
 exact ⟨_, _, rfl⟩

structure Bld {α : Type} (B : Nat) (w0 : World) (g : Nat) (T : TypeId) (A S : Nat → Prop) (F : World → Prop) (e : TypeId) (k : Nat) (f : α → List Value) (c : Array Value) (v : Value) (l : List α) (w : World) : Prop where
 keep : Below B w0 w
 Bg : B ≤ g
 Bw : B ≤ w.heap.size
 blk : Blk w g (.cells c T)
 foot : Foot S F w
 SB : ∀ b, S b → B ≤ b
 own : Own w B e k f v l
 gS : ¬ S g
 vg : v.ownBlock ≠ some g
 vS : ∀ b, S b → v.ownBlock ≠ some b
 Alt : ∀ b, A b → b < w.heap.size
 Ag : ¬ A g
 AS : ∀ b, A b → ¬ S b
 Av : ∀ b, A b → v.ownBlock ≠ some b

section
variable {α : Type} {B : Nat} {w0 : World} {g : Nat} {T : TypeId} {A S : Nat → Prop} {F : World → Prop} {e : TypeId} {k : Nat} {f : α → List Value} {c : Array Value} {v : Value} {l : List α} {w : World}
theorem Bld.push (h : Bld B w0 g T A S F e k f c v l w) {wa w7 : World} {v7 : Value} {l7 : List α} (ka : Keeps w wa) (o7 : Own w7 B e k f v7 l7) (g7 : wa.grownBy w7 v.ownBlock) (f7 : ∀ b, v7.ownBlock = some b → v.ownBlock = some b ∨ wa.heap.size ≤ b) (j : Nat) :
  Bld B w0 g T A S F e k f (c.setIfInBounds j v7) v7 l7 (w7.setCell ⟨g, j, none⟩ v7) := by
 have s1 := ka.size
 have s2 := g7.size
 have H0 := grown_setCell w7 g j v7
 have hgl := h.blk.lt
 have H1 : v7.ownBlock ≠ some g := fun e => by
  rcases f7 g e with e | e
  ·exact h.vg e
  omega
 have old : ∀ b, b < w.heap.size → v.ownBlock ≠ some b → v7.ownBlock ≠ some b := fun b hb hne e => by
  rcases f7 b e with e | e
  ·exact hne e
  omega
 refine ⟨?_, h.Bg, by rw [sz_setCell]; have := h.Bw; omega, ?_, ?_, h.SB, ?_, h.gS, H1, fun b hb => old b (h.foot.1 b hb) (h.vS b hb), fun b hb => by rw [sz_setCell]; have := h.Alt b hb; omega, h.Ag, h.AS, fun b hb => old b (h.Alt b hb) (h.Av b hb)⟩
 ·have h1 : Below B w0 wa := Below.trans h.keep (Below.mono ka h.Bw)
  have h2 : Below B w0 w7 := Below.trans h1 (below_grown g7 (by have := h.Bw; omega) h.own.row)
  exact Below.setCell h2 h.Bg _
 ·exact Blk.set ((h.blk.keep ka).grown g7 fun e => h.vg e.symm) j v7
 ·exact ((h.foot.keep ka).grown g7 fun b hb => h.vS b hb).grown H0 fun b hb e => h.gS (by cases e; exact hb)
 exact o7.other H0 fun g' hg' e => H1 (by rw [hg', e])
theorem Bld.else (h : Bld B w0 g T A S F e k f c v l w) {w' : World} {a : Nat} (hg : w.grownBy w' (some a)) (ha : A a) (hBa : B ≤ a) : Bld B w0 g T A S F e k f c v l w' := by
 have s := hg.size
 refine ⟨Below.trans h.keep (below_grown hg h.Bw fun q hq => by cases hq; exact hBa), h.Bg, by have := h.Bw; omega, h.blk.grown hg fun e => h.Ag (by cases e; exact ha), h.foot.grown hg fun b hb e => h.AS a ha (by cases e; exact hb), h.SB, h.own.other hg fun b hb e => h.Av a ha (by rw [hb, e]), h.gS, h.vg, h.vS, fun b hb => by have := h.Alt b hb; omega, h.Ag, h.AS, h.Av⟩
theorem Bld.keeps (h : Bld B w0 g T A S F e k f c v l w) {w' : World} (hk : Keeps w w') : Bld B w0 g T A S F e k f c v l w' := by
 have s := hk.size
 refine ⟨Below.trans h.keep (Below.mono hk h.Bw), h.Bg, by have := h.Bw; omega, h.blk.keep hk, h.foot.keep hk, h.SB, h.own.keep hk, h.gS, h.vg, h.vS, fun b hb => by have := h.Alt b hb; omega, h.Ag, h.AS, h.Av⟩
theorem Bld.next (h : Bld B w0 g T A S F e k f c v l w) {β : Type} {e' : TypeId} {k' : Nat} {f' : β → List Value} : Bld B w0 g T A (fun b => S b ∨ v.ownBlock = some b) (fun w => F w ∧ Own w B e k f v l) e' k' f' c (.slice none 0 0) [] w :=
 ⟨h.keep, h.Bg, h.Bw, h.blk, h.foot.and h.own.foot, fun b hb => hb.elim (h.SB b) (h.own.row b), Own.nil _ _ _ _ _, fun hb => hb.elim h.gS h.vg, (fun e => by cases e), (fun _ _ e => by cases e), h.Alt, h.Ag, fun b hb hs => hs.elim (h.AS b hb) (h.Av b hb), (fun _ _ e => by cases e)⟩
theorem Bld.weak (h : Bld B w0 g T A S F e k f c v l w) {G : World → Prop} (hg : ∀ w, F w → G w) : Bld B w0 g T A S G e k f c v l w := { h with foot := h.foot.imp hg }
theorem Bld.join (h : Bld B w0 g T A S F e k f c v l w) {R : Nat → Prop} {Q : World → Prop} (hr : Foot R Q w) (hB : ∀ b, R b → B ≤ b) (hg : ¬ R g) (hv : ∀ b, R b → v.ownBlock ≠ some b) (hA : ∀ b, A b → ¬ R b) :
  Bld B w0 g T A (fun b => S b ∨ R b) (fun w => F w ∧ Q w) e k f c v l w :=
 { h with foot := h.foot.and hr, SB := fun b hb => hb.elim (h.SB b) (hB b), gS := fun hb => hb.elim h.gS hg, vS := fun b hb => hb.elim (h.vS b) (hv b), AS := fun b hb hs => hs.elim (h.AS b hb) (hA b hb) }
theorem Bld.put (h : Bld B w0 g T A S F e k f c v l w) (j : Nat) (u : Value) : Bld B w0 g T A S F e k f (c.setIfInBounds j u) v l (w.setCell ⟨g, j, none⟩ u) := by
 have H0 := grown_setCell w g j u
 refine ⟨Below.setCell h.keep h.Bg _, h.Bg, by rw [sz_setCell]; exact h.Bw, h.blk.set j u, h.foot.grown H0 fun b hb e => h.gS (by cases e; exact hb), h.SB, h.own.other H0 fun b hb e => h.vg (by rw [hb, e]), h.gS, h.vg, h.vS, fun b hb => by rw [sz_setCell]; exact h.Alt b hb, h.Ag, h.AS, h.Av⟩
end

structure Sle where
 a : Option Addr
 n : Nat
 c : Nat
 deriving Inhabited
def Sle.v (s : Sle) : Value := .slice s.a s.n s.c
def sle (s : Sle) : List Value := [.slice s.a s.n s.c]
theorem sle_len (s : Sle) : (sle s).length = 1 := rfl
theorem sle_one (s : Sle) : ∀ u ∈ sle s, u.oneCell' = true := by intro u hu; simp only [sle, List.mem_singleton] at hu; subst hu; rfl
def RowsAt (vs : List Sle) (ls : List (List Int)) (w : World) : Prop := vs.length = ls.length ∧ ∀ j, j < ls.length → Ints w (nth vs j).v (nth ls j)
theorem rowsAt_nil (w : World) : RowsAt [] [] w := ⟨rfl, fun _ hj => absurd hj (Nat.not_lt_zero _)⟩
theorem nth_app_lt {α : Type} [Inhabited α] (l : List α) (y : α) {j : Nat} (h : j < l.length) : nth (l ++ [y]) j = nth l j := by
 rw [nth_eq _ _ (by simp; omega), nth_eq _ _ h, List.getElem_append_left h]
theorem nth_app_eq {α : Type} [Inhabited α] (l : List α) (y : α) {j : Nat} (h : j = l.length) : nth (l ++ [y]) j = y := by
 subst h
 rw [nth_eq _ _ (by simp)]
 simp
theorem rowsAt_snoc {vs : List Sle} {ls : List (List Int)} {w : World} (h : RowsAt vs ls w) {s : Sle} {l : List Int} (hs : Ints w s.v l) : RowsAt (vs ++ [s]) (ls ++ [l]) w := by
 refine ⟨by simp [h.1], fun j hj => ?_⟩
 rcases Nat.lt_or_ge j ls.length with H0 | hge
 ·rw [nth_app_lt _ _ (by rw [h.1]; exact H0), nth_app_lt _ _ H0]; exact h.2 j H0
 have : j = ls.length := by simp at hj; omega
 rw [nth_app_eq _ _ (by rw [h.1]; exact this), nth_app_eq _ _ this]; exact hs
theorem tabs_of {w : World} {base : Nat} {e : TypeId} {v : Value} {vs : List Sle} {ls : List (List Int)} (ho : Own w base e 1 sle v vs) (hr : RowsAt vs ls w) : Tabs w v ls := by
 refine ⟨fun i => (nth vs i).v, ?_, fun i hi => hr.2 i hi⟩
 have ha := ho.arr sle_len
 rw [hr.1] at ha
 exact ha.congr fun i j _ hj => by rw [show j = 0 by omega]; rfl
def cfu (x : Fu) : List Value := [.string x.Name, .int .i64 x.Start, .int .i64 x.Size]
theorem cfu_len (x : Fu) : (cfu x).length = 3 := rfl
theorem cfu_one (x : Fu) : ∀ u ∈ cfu x, u.oneCell' = true := by intro u hu; simp [cfu] at hu; rcases hu with rfl | rfl | rfl <;> rfl
def cln (x : Ln) : List Value := [.int .i64 x.At, .int .i64 x.N]
theorem cln_len (x : Ln) : (cln x).length = 2 := rfl
theorem cln_one (x : Ln) : ∀ u ∈ cln x, u.oneCell' = true := by intro u hu; simp [cln] at hu; rcases hu with rfl | rfl <;> rfl
theorem Own.funs {w : World} {base : Nat} {e : TypeId} {v : Value} {l : List Fu} (h : Own w base e 3 cfu v l) : Funs w v l :=
 (h.arr cfu_len).congr fun i j _ hj => by
  match j, hj with
  | 0, _ => rfl
  | 1, _ => rfl
  | 2, _ => rfl
theorem Own.lines {w : World} {base : Nat} {e : TypeId} {v : Value} {l : List Ln} (h : Own w base e 2 cln v l) : Lines w v l :=
 (h.arr cln_len).congr fun i j _ hj => by
  match j, hj with
  | 0, _ => rfl
  | 1, _ => rfl
end Go.Proofs.YtgdamggkaklhjaaDoor.BH
end
section
namespace Go.Proofs.YtgdamggkaklhjaaDoor.BH
open Go.RowKit Go.Maps Go.WideShapes Go.MapKept
set_option maxRecDepth 100000
variable {P : Program} {t k e : TypeId} {κ ν : Type} {enc : κ → Value} {wf : κ → Prop} {venc : ν → Value} {lit : ν → DataW Unit} {wv : ν → Prop} {z0 : ν}
theorem MapF.entry [DecidableEq κ] (M : MK P t k e enc wf venc lit wv z0) {w : World} {b n : Nat} {m : κ → Option ν} (h : MapF P k e enc wf lit w b n m) (hn : n < maxLen) {x : κ} (hx : wf x) {c : ν} (hc : wv c) :
  ∃ (v0 : Value) (st : Nat) (w1 w' : World), (Instr.mapEntry t (.map (some b)) (enc x)).run P w = .ok (.tuple #[v0, .int .i64 (st : Int)]) w1 ∧ (Instr.entryStore t (.map (some b)) (.int .i64 (st : Int)) (venc c)).run P w1 = .ok () w' ∧
   MapF P k e enc wf lit w' b (n + 1) (fun y => if y = x then some c else m y) ∧ w.grownBy w' (some b) ∧ w.grownBy w1 (some b) ∧ w1.heap.size = w.heap.size := by
 have H7 : ∀ o, w.grownBy { w with heap := w.heap.setIfInBounds b o } (some b) := fun o => ⟨rfl, rfl, rfl, by simp, fun q hq hne => by (have : ¬ b = q := fun e => hne (by rw [e])); simp [this]⟩
 obtain ⟨w', H3, h1, h2⟩ := h.put M hn hx hc
 obtain ⟨D, ⟨es, H0, hb, F, hs, hD⟩, hm⟩ := h
 obtain ⟨kl, H1⟩ := M.key x hx
 obtain ⟨s1, s2, _⟩ := F.stamped
 have H9 : b < w.heap.size := lt_of_block hb
 have H8 : ∀ o, (w.heap.setIfInBounds b o)[b]? = some o := fun o => by simp [H9]
 have two : ∀ o1 o2, (w.heap.setIfInBounds b o1).setIfInBounds b o2 = w.heap.setIfInBounds b o2 := fun o1 o2 => by simp
 rcases M.K.find w H1 es.toList F.keys with ⟨g1, g2⟩ | ⟨j, e0, g1, g2, g3⟩
 ·have hw : w' = { w with heap := w.heap.setIfInBounds b (.map (es.push ⟨enc x, venc c, H0⟩) (H0 + 1)) } := by
   have q := H3
   simp [Instr.mapUpdate, run_underlying M.ht, MapKept.run_getObj_map hb, M.K.check w false H1, g1, MapKept.run_setObj_map _ hb, Result.andThen] at q
   exact q.symm
  have Ha : es.findIdx? (fun e => ((e.born : Nat) : Int) == ((H0 : Nat) : Int)) = none := by rw [Array.findIdx?_eq_none_iff]; intro y hy; (have := s1 y (by simpa using hy)); simp; omega
  refine ⟨venc z0, H0, { w with heap := w.heap.setIfInBounds b (.map (es.push ⟨enc x, venc z0, H0⟩) (H0 + 1)) }, w', ?_, ?_, h1, h2, H7 _, by simp⟩
  ·simp [Instr.mapEntry, run_underlying M.ht, MapKept.run_getObj_map hb, M.K.check w false H1, g1, M.zero, MapKept.run_setObj_map _ hb, Result.andThen, goInt]
  have hi : (es.push ⟨enc x, venc z0, H0⟩).findIdx? (fun e => ((e.born : Nat) : Int) == ((H0 : Nat) : Int)) = some es.size := by
   rw [Array.findIdx?_push, Ha]
   simp
  have H2 : (es.push ⟨enc x, venc z0, H0⟩).modify es.size (fun e => { e with val := venc c }) = es.push ⟨enc x, venc c, H0⟩ := by
   apply Array.ext
   ·simp
   intro i i1 i2
   rw [Array.getElem_modify]
   by_cases q : es.size = i
   ·subst q; simp
   rw [if_neg q]
   have : i < es.size := by simp at i2; omega
   rw [Array.getElem_push_lt this, Array.getElem_push_lt this]
  have H4 : ({ w with heap := w.heap.setIfInBounds b (.map (es.push ⟨enc x, venc z0, H0⟩) (H0 + 1)) } : World).heap[b]? = some (.map (es.push ⟨enc x, venc z0, H0⟩) (H0 + 1)) := H8 _
  rw [hw]
  simp [Instr.entryStore, MapKept.run_getObj_map H4, MapKept.run_setObj_map _ H4, asInt, asIntOf, hi, H2, Result.andThen]
 have hj : es[j]? = some e0 := by simpa using g2
 have Hb : j < es.size := (Array.getElem?_eq_some_iff.1 hj).1
 have H6 : es[j] = e0 := (Array.getElem?_eq_some_iff.1 hj).2
 have H5 : es.modify j (fun e => { e with key := enc x }) = es := by
  apply Array.ext
  ·simp
  intro i i1 i2
  rw [Array.getElem_modify]
  by_cases q : j = i
  ·subst q; rw [if_pos rfl, H6, ← g3]
  rw [if_neg q]
 have hw : w' = { w with heap := w.heap.setIfInBounds b (.map (es.modify j fun e' => { e' with key := enc x, val := venc c }) H0) } := by have q := H3; simp [Instr.mapUpdate, run_underlying M.ht, MapKept.run_getObj_map hb, M.K.check w false H1, g1, hj, g3, M.K.stays w H1, MapKept.run_setObj_map _ hb, Result.andThen] at q; exact q.symm
 refine ⟨e0.val, e0.born, { w with heap := w.heap.setIfInBounds b (.map es H0) }, w', ?_, ?_, h1, h2, H7 _, by simp⟩
 ·simp [Instr.mapEntry, run_underlying M.ht, MapKept.run_getObj_map hb, M.K.check w false H1, g1, hj, g3, M.K.stays w H1, H5, MapKept.run_setObj_map _ hb, Result.andThen, goInt]
 have hi : es.findIdx? (fun e => ((e.born : Nat) : Int) == ((e0.born : Nat) : Int)) = some j := by
  rw [Array.findIdx?_eq_some_iff_getElem]
  refine ⟨Hb, by rw [H6]; simp, fun i hi q => ?_⟩
  have Hc : es[i].born = e0.born := by have q2 := eq_of_beq q; omega
  have h3 : (es.toList.map (·.born))[i]'(by simp; omega) = (es.toList.map (·.born))[j]'(by simp; omega) := by simp [Hc, H6]
  exact List.pairwise_iff_getElem.1 s2 i j (by simp; omega) (by simp; omega) hi h3
 have H2 : es.modify j (fun e => { e with val := venc c }) = es.modify j (fun e' => { e' with key := enc x, val := venc c }) := by
  apply Array.ext
  ·simp
  intro i i1 i2
  rw [Array.getElem_modify, Array.getElem_modify]
  by_cases q : j = i
  ·subst q; rw [if_pos rfl, if_pos rfl, H6, ← g3]
  rw [if_neg q, if_neg q]
 have H4 : ({ w with heap := w.heap.setIfInBounds b (.map es H0) } : World).heap[b]? = some (.map es H0) := H8 _
 rw [hw]
 simp [Instr.entryStore, MapKept.run_getObj_map H4, MapKept.run_setObj_map _ H4, asInt, asIntOf, hi, H2, Result.andThen]
section
variable (w : World) {ops : Array Oper} {rest : List Oper} {o1 o2 o3 : Oper} {a : Act} {Q : Exit → Act → World → Prop}
end
end Go.Proofs.YtgdamggkaklhjaaDoor.BH
end
