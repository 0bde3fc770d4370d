/-
  What the decoders' walks share: the zero image, six stores, the spec's steps.
-/
import Derived.Test.YtjnhiiidcjajbaaGreatDoorReader
import Derived.Test.YtjnhiiidcjajbaaGreatDoorSame
namespace Go.Proofs.YtjnhiiidcjajbaaGreatDoor
open Go.RowKit BH
set_option maxHeartbeats 4000000
set_option maxRecDepth 100000
theorem zimg_at (w : World) : ImgAt w (.agg #[.slice none 0 0, .slice none 0 0, .slice none 0 0, .slice none 0 0, .slice none 0 0, .int .i64 0]) zImg := by
  have h : ∀ (k : Nat) (c : Nat → Nat → Value), Arr w (.slice none 0 0) 0 k c := fun k c => ⟨none, 0, rfl, Nat.le_refl _, by unfold maxLen; omega, fun _ => rfl, fun h => absurd h (Nat.lt_irrefl _)⟩
  exact ⟨_, _, _, _, _, rfl, h 1 _, h 3 _, ⟨fun _ => .int .i64 0, h 1 _, fun i hi => absurd hi (Nat.not_lt_zero _)⟩, h 1 _, h 2 _⟩
theorem put6 {w : World} {z : Nat} {T : TypeId} {c0 c1 c2 c3 c4 c5 : Value} (h : Blk w z (.cells #[c0, c1, c2, c3, c4, c5] T)) (v0 v1 v2 v3 v4 v5 : Value) {wf : World} (hf : wf = ((((((w.setCell ⟨z, 0, none⟩ v0).setCell ⟨z, 1, none⟩ v1).setCell ⟨z, 2, none⟩ v2).setCell ⟨z, 3, none⟩ v3).setCell ⟨z, 4, none⟩ v4).setCell ⟨z, 5, none⟩ v5)) :
    Blk wf z (.cells #[v0, v1, v2, v3, v4, v5] T) ∧ w.grownBy wf (some z) := by
  subst hf
  exact ⟨(((((h.set 0 _).set 1 _).set 2 _).set 3 _).set 4 _).set 5 _, grown_trans (grown_trans (grown_trans (grown_trans (grown_trans (grown_setCell _ _ _ _) (grown_setCell _ _ _ _)) (grown_setCell _ _ _ _)) (grown_setCell _ _ _ _)) (grown_setCell _ _ _ _)) (grown_setCell _ _ _ _)⟩
/-- ways into 'grownBy' that keep what was before -/
theorem keeps_put {w wr wf : World} {z : Nat} (hk : Keeps w wr) (hz : w.heap.size ≤ z) (hg : wr.grownBy wf (some z)) : Keeps w wf := Below.grown hk hg hk.size (by intro q e; cases e; exact hz)
theorem grown_of_keeps {w w' : World} {a : Option Nat} (h : w.grownBy w' a) {B : Nat} : (∀ q, a = some q → B ≤ q) → B ≤ w.heap.size → Below B w w' := fun h1 h2 => below_grown h h2 h1

theorem fnP_zero (a : Int) (p : PS) (acc : List Fu) : fnP 0 a p acc = (acc, p) := rfl
theorem fnP_stop (k : Nat) (a : Int) (acc : List Fu) : fnP k a none acc = (acc, none) := by cases k <;> rfl
theorem nmP_stop (c : Int) (k : Nat) (acc : List Int) : nmP c k none acc = (acc, none) := by cases k <;> rfl
theorem tabP_stop (k : Nat) (acc : List (List Int)) : tabP k none acc = (acc, none) := by cases k <;> rfl
theorem lnP_stop (k : Nat) (acc : List Ln) : lnP k none acc = (acc, none) := by cases k <;> rfl
/-- the function that begins here -/
def fn1 (p : PS) : PS := (nm 1 p).2
def fn2 (p : PS) : List UInt8 × PS := tk (nm 1 p).1 (nm 1 p).2
def fn3 (p : PS) : Int × PS := nm 2 (fn2 p).2
theorem fnP_step (k : Nat) (a : Int) (l : List UInt8) (acc : List Fu) : fnP (k + 1) a (some l) acc = fnP k (a + (fn3 (some l)).1) (fn3 (some l)).2 (acc ++ [⟨str (fn2 (some l)).1, a, (fn3 (some l)).1⟩]) := rfl
theorem nmP_step (c : Int) (k : Nat) (l : List UInt8) (acc : List Int) : nmP c (k + 1) (some l) acc = nmP c k (nm c (some l)).2 (acc ++ [(nm c (some l)).1]) := rfl
def tb1 (p : PS) : Int × PS := nm 1 p
def tb2 (p : PS) : List Int × PS := nmP 2 (tb1 p).1.toNat (tb1 p).2 []
theorem tabP_step (k : Nat) (l : List UInt8) (acc : List (List Int)) : tabP (k + 1) (some l) acc = tabP k (tb2 (some l)).2 (acc ++ [(tb2 (some l)).1]) := rfl
def ln2 (p : PS) : Int × PS := nm 2 (nm 2 p).2
theorem lnP_step (k : Nat) (l : List UInt8) (acc : List Ln) : lnP (k + 1) (some l) acc = lnP k (ln2 (some l)).2 (acc ++ [⟨(nm 2 (some l)).1, (ln2 (some l)).1⟩]) := rfl
theorem fnP_len : ∀ (k : Nat) (a : Int) (p : PS) (acc : List Fu), (fnP k a p acc).1.length ≤ acc.length + k := by
  intro k
  induction k with
  | zero => intro a p acc; exact Nat.le_refl _
  | succ k ih =>
    intro a p acc
    cases p with
    | none => rw [fnP_stop]; exact Nat.le_add_right _ _
    | some l => rw [fnP_step]; have := ih (a + (fn3 (some l)).1) (fn3 (some l)).2 (acc ++ [⟨str (fn2 (some l)).1, a, (fn3 (some l)).1⟩]); simp at this; omega

theorem dec_big {l : List UInt8} (h : 100000 < l.length) : decImg l = (zImg, 1) := if_pos h
theorem dec_sign {l : List UInt8} (h : ¬ 100000 < l.length) (h2 : l.take 4 ≠ sign.take l.length) : decImg l = (zImg, 4) := by unfold decImg; rw [if_neg h, if_pos h2]
theorem dec_few {l : List UInt8} (h : ¬ 100000 < l.length) (h2 : l.take 4 = sign.take l.length) (h3 : l.length < 4) : decImg l = (zImg, 5) := by unfold decImg; rw [if_neg h, if_neg (by simpa using h2), if_pos h3]
theorem dec_short {l : List UInt8} (h : ¬ 100000 < l.length) (h2 : l.take 4 = sign.take l.length) (h3 : ¬ l.length < 4) (h4 : (dLines l).2 = none) : decImg l = (zImg, 5) := by unfold decImg; rw [if_neg h, if_neg (by simpa using h2), if_neg h3, h4]
theorem dec_more {l r : List UInt8} (h : ¬ 100000 < l.length) (h2 : l.take 4 = sign.take l.length) (h3 : ¬ l.length < 4) (h4 : (dLines l).2 = some r) (h5 : 0 < r.length) : decImg l = (zImg, 4) := by unfold decImg; rw [if_neg h, if_neg (by simpa using h2), if_neg h3, h4]; exact if_pos h5
theorem dec_end {l r : List UInt8} (h : ¬ 100000 < l.length) (h2 : l.take 4 = sign.take l.length) (h3 : ¬ l.length < 4) (h4 : (dLines l).2 = some r) (h5 : ¬ 0 < r.length) : decImg l = if imgFault (dImg l) = 0 then (dImg l, 0) else (zImg, imgFault (dImg l)) := by unfold decImg; rw [if_neg h, if_neg (by simpa using h2), if_neg h3, h4]; exact if_neg h5

section
variable {P : Program} {w : World} {ops : Array Oper} {o : Oper} {a : Act} {Q : Exit → Act → World → Prop}
/-- 'string(b)' at a step of a region that draws its order -/
theorem step_string {K : Act → World → Prop} {E : Prop} (hgd : o.guard = none) (x : Operand) (s d : TypeId) (ho : o.op = .convert s d x) {v : Value} {l : List UInt8} (hx : a.eval x = v) (hb : Bytes w v l) {e : TypeId} (hs : P.underlying s = some (.slice e)) (he : P.underlying e = some (.int .u8)) (hd : P.underlying d = some .string)
    (h : K (a.put o.dst (.string (str l))) w) : if Region.wanted o (yielded ops a.tmps) = true then Oper.wp P o a w K Q else E := by
  have hw : Region.wanted o (yielded ops a.tmps) = true := by simp [Region.wanted, hgd]
  rw [if_pos hw]
  unfold Oper.wp execOp
  have hr := run_string_of (P := P) hb hs he hd
  simp only [ho, Sem.run_bind, Sem.run_pure, hx, hr, Result.andThen_ok]
  exact h
end
theorem Bytes.grown {w w' : World} {v : Value} {l : List UInt8} (h : Bytes w v l) {row : Option Nat} (hg : w.grownBy w' row) (hne : ∀ b, v.ownBlock = some b → row ≠ some b) : Bytes w' v l :=
  ((Arr.foot h (by decide)).grown hg fun b hb => hne b hb.2).here
theorem blk_top_grown {X w' : World} {o : Obj} {r : Nat} (hg : (X.alloc o).grownBy w' (some r)) (hne : r < X.heap.size) : Blk w' X.heap.size o := (Blk.top X o).grown hg (fun e => by cases e; exact absurd hne (Nat.lt_irrefl _))
theorem blk_top_grown' {X w' : World} {o : Obj} {r : Nat} (hg : (X.alloc o).drew.grownBy w' (some r)) (hne : r < X.heap.size) : Blk w' X.heap.size o := ((Blk.top X o).keep ((Keeps.refl _).drew)).grown hg (fun e => by cases e; exact absurd hne (Nat.lt_irrefl _))
theorem grown_new {w w1 w2 : World} {r f : Nat} (h : w.grownBy w1 (some r)) (hf : w.heap.size ≤ f) (k : w1.grownBy w2 (some f)) : w.grownBy w2 (some r) :=
  ⟨k.os.trans h.os, k.tape.trans h.tape, k.output.trans h.output, Nat.le_trans h.size k.size, fun b hb hne => (k.block b (Nat.lt_of_lt_of_le hb h.size) (fun e => by cases e; omega)).trans (h.block b hb hne)⟩
theorem bytes_form {w : World} {v : Value} {l : List UInt8} (h : Bytes w v l) : ∃ a n c, v = .slice a n c := by
  obtain ⟨a, c, h, _⟩ := h
  exact ⟨a, _, c, h⟩
theorem NewAt.ne {r : Nat} {w : World} {v : Value} (h : NewAt w.heap.size v) (hr : r < w.heap.size) : ∀ b, v.ownBlock = some b → some r ≠ some b := fun b hb e => by cases e; exact absurd (h r hb) (by omega)
theorem NewAt.ne' {r : Nat} {w wx : World} {v : Value} (h : NewAt wx.heap.size v) (hk : Keeps w wx) (hr : r < w.heap.size) : ∀ b, v.ownBlock = some b → some r ≠ some b := fun b hb e => by cases e; have := hk.size; exact absurd (h r hb) (by omega)
theorem RdAt.lt {W0 w : World} {g : Nat} {p : PS} (h : RdAt W0 g p w) : g < w.heap.size := by
  obtain ⟨_, _, _, _, hb, _⟩ := h
  exact hb.lt
theorem grown_own {w wa w' : World} {r : Nat} {v : Value} (h : w.grownBy wa (some r)) (k : wa.grownBy w' v.ownBlock) (hv : ∀ b, v.ownBlock = some b → w.heap.size ≤ b) : w.grownBy w' (some r) :=
  ⟨k.os.trans h.os, k.tape.trans h.tape, k.output.trans h.output, Nat.le_trans h.size k.size, fun b hb hne => (k.block b (Nat.lt_of_lt_of_le hb h.size) (fun e => by have := hv b e.symm; omega)).trans (h.block b hb hne)⟩
/-- the text has been read: the image begins -/
theorem bld_text {W w6 : World} {r g m : Nat} {T : TypeId} {tx : List UInt8} {a0 : Option Addr} {n0 c0 : Nat} {c : Array Value} {β : Type} {e : TypeId} {k : Nat} {f : β → List Value} (hk : Keeps W w6) (hb : Blk w6 g (.cells c T)) (hv : Bytes w6 (.slice a0 n0 c0) tx) (hlo : NewAt m (.slice a0 n0 c0)) (hWm : W.heap.size ≤ m) (hr : r < m) (hg : ∀ b, b < w6.heap.size → m ≤ b → (Value.slice a0 n0 c0).ownBlock = some b → 0 < tx.length → b ≠ g) (hBg : W.heap.size ≤ g) (hrg : r ≠ g) (hr6 : r < w6.heap.size) :
    Bld W.heap.size W g T (fun b => b = r) (fun b => 0 < tx.length ∧ (Value.slice a0 n0 c0).ownBlock = some b) (fun w => Bytes w (.slice a0 n0 c0) tx) e k f c (.slice none 0 0) ([] : List β) w6 := by
  have hf := Arr.foot hv (by decide)
  refine ⟨hk, hBg, hk.size, hb, hf, fun b hb => Nat.le_trans hWm (hlo b hb.2), Own.nil _ _ _ _ _, fun hb => ?_, (fun e => by cases e), (fun _ _ e => by cases e), fun b hb => by subst hb; exact hr6, fun e => hrg e.symm, fun b hb hs => ?_, (fun _ _ e => by cases e)⟩
  · exact hg g (hf.1 g hb) (hlo g hb.2) hb.2 hb.1 rfl
  · subst hb
    have := hlo b hs.2
    omega
end Go.Proofs.YtjnhiiidcjajbaaGreatDoor
