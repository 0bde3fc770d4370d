/-
  A map of the call's own as a function of its keys: made, looked up, written, gone through. No program is named here.
-/
import Derived.Test.YtjnhiiidcjajbaaGreatDoorOwn
import Derived.Maps.OwnSet
import Derived.Maps.RangeWalk
namespace Go.Proofs.YtjnhiiidcjajbaaGreatDoor.BH
open Go.RowKit Go.Maps Go.WideShapes
set_option maxRecDepth 100000
/-- a kind of map: how keys (of κ) and elements (of ν) stand in memory -/
structure MK (P : Program) (t k e : TypeId) {κ ν : Type} (enc : κ → Value) (wf : κ → Prop) (venc : ν → Value) (lit : ν → DataW Unit) (wv : ν → Prop) (z0 : ν) : Prop where
  K : Keyed P k
  ht : P.underlying t = some (.map k e)
  key : ∀ x, wf x → ∃ kl, keyOf P k (enc x) = some kl
  inv : ∀ v kl, keyOf P k v = some kl → ∃ x, wf x ∧ v = enc x
  inj : ∀ x y, enc x = enc y → x = y
  val : ∀ c, wv c → plainElem (H := Unit) P e (venc c) = some (lit c, [])
  vinv : ∀ v y, plainElem (H := Unit) P e v = some y → ∃ c, wv c ∧ v = venc c ∧ y = (lit c, [])
  linj : ∀ c d, lit c = lit d → c = d
  zero : ∀ w, (zeroValue e).run P w = .ok (venc z0) w
  wz : wv z0
section
variable {P : Program} {t k e : TypeId} {κ ν : Type} {enc : κ → Value} {wf : κ → Prop} {venc : ν → Value} {lit : ν → DataW Unit} {wv : ν → Prop} {z0 : ν}
/-- a reading of a map tells what m tells -/
def Tells (P : Program) (k : TypeId) (enc : κ → Value) (wf : κ → Prop) (lit : ν → DataW Unit) (D : DataW Unit) (m : κ → Option ν) : Prop :=
  ∀ x kl, wf x → keyOf P k (enc x) = some kl → Maps.has D kl = (m x).isSome ∧ ∀ c, m x = some c → ∀ zd, D.atKey kl zd = lit c
/-- block b is a map of at most n entries that answers as m -/
def MapF (P : Program) (k e : TypeId) (enc : κ → Value) (wf : κ → Prop) (lit : ν → DataW Unit) (w : World) (b n : Nat) (m : κ → Option ν) : Prop :=
  ∃ D : DataW Unit, w.ownsMap P k (plainElem P e) b n D ∧ Tells P k enc wf lit D m
theorem MapF.made (w : World) : MapF P k e enc wf lit (w.alloc (.map #[] 0)) w.heap.size 0 (fun _ => none) :=
  ⟨.map [], World.ownsMap_made w P k _, fun x kl _ _ => ⟨rfl, fun c h => by cases h⟩⟩
theorem MapF.grown {w w' : World} {b n : Nat} {m : κ → Option ν} (h : MapF P k e enc wf lit w b n m) {row : Option Nat} (hg : w.grownBy w' row) (hne : some b ≠ row) : MapF P k e enc wf lit w' b n m := by
  obtain ⟨D, h1, h2⟩ := h
  exact ⟨D, h1.kept hg hne, h2⟩
theorem MapF.keep {w w' : World} {b n : Nat} {m : κ → Option ν} (h : MapF P k e enc wf lit w b n m) (hk : Keeps w w') : MapF P k e enc wf lit w' b n m := h.grown (hk.grown none) (by simp)
theorem MapF.lt {w : World} {b n : Nat} {m : κ → Option ν} (h : MapF P k e enc wf lit w b n m) : b < w.heap.size := by
  obtain ⟨D, h1, -⟩ := h
  exact h1.lt
theorem MapF.mono {w : World} {b n n' : Nat} {m : κ → Option ν} (h : MapF P k e enc wf lit w b n m) (hn : n ≤ n') : MapF P k e enc wf lit w b n' m := by
  obtain ⟨D, h1, h2⟩ := h
  exact ⟨D, h1.mono hn, h2⟩
theorem MapF.look (M : MK P t k e enc wf venc lit wv z0) {w : World} {b n : Nat} {m : κ → Option ν} (h : MapF P k e enc wf lit w b n m) {x : κ} (hx : wf x) (c : Bool) :
    (Instr.lookup t (.map (some b)) (enc x) c).run P w = .ok (if c then .tuple #[venc ((m x).getD z0), .bool (m x).isSome] else venc ((m x).getD z0)) w ∧ wv ((m x).getD z0) := by
  obtain ⟨D, ⟨es, clock, hb, F, hs, rfl⟩, hm⟩ := h
  obtain ⟨kl, hkey⟩ := M.key x hx
  obtain ⟨h1, h2⟩ := hm x kl hx hkey
  rcases Maps.fit_look c M.K M.ht (M.zero w) hb F hkey with ⟨hrun, _, hat⟩ | ⟨e0, y, _, _, hrun, hRv, hat, _⟩
  · have hf := Maps.has_false_of_atKey hat
    rw [hf] at h1
    have hn : m x = none := by
      cases hmx : m x with
      | none => rfl
      | some c => rw [hmx] at h1; cases h1
    rw [hn]
    exact ⟨hrun, M.wz⟩
  · have hf := Maps.has_true_of_atKey hat
    rw [hf] at h1
    obtain ⟨c0, hc0⟩ := Option.isSome_iff_exists.1 h1.symm
    obtain ⟨c1, hw1, hv1, hy1⟩ := M.vinv _ _ hRv
    have e1 := h2 c0 hc0 .nil
    rw [hat .nil, hy1] at e1
    have e2 := M.linj _ _ e1
    subst e2
    rw [hc0]
    rw [hv1] at hrun
    exact ⟨hrun, hw1⟩
theorem MapF.put [DecidableEq κ] (M : MK P t k e enc wf venc lit wv z0) {w : World} {b n : Nat} {m : κ → Option ν} (h : MapF P k e enc wf lit w b n m) (hn : n < maxLen) {x : κ} (hx : wf x) {c : ν} (hc : wv c) :
    ∃ w', (Instr.mapUpdate t (.map (some b)) (enc x) (venc c)).run P w = .ok () w' ∧ MapF P k e enc wf lit w' b (n + 1) (fun y => if y = x then some c else m y) ∧ w.grownBy w' (some b) := by
  obtain ⟨D, h1, h2⟩ := h
  obtain ⟨kl, hkey⟩ := M.key x hx
  obtain ⟨w', hrun, ho, hg⟩ := h1.update M.K M.ht hn hkey (M.val c hc)
  refine ⟨w', hrun, ⟨_, ho, fun y kl' hy hkey' => ?_⟩, hg⟩
  by_cases q : y = x
  · subst q
    obtain rfl := Option.some.inj (hkey.symm.trans hkey')
    dsimp only
    rw [if_pos rfl]
    refine ⟨Maps.has_put_same h1.isMap (M.K.key hkey) _, fun c' hc' zd => ?_⟩
    obtain rfl := Option.some.inj hc'
    exact Maps.atKey_put_same h1.isMap (M.K.key hkey) _ zd
  · have hne : kl' ≠ kl := fun e => q (M.inj _ _ (M.K.inj hkey' (by rw [e]; exact hkey)))
    dsimp only
    rw [if_neg q, Maps.has_put_other hne]
    obtain ⟨g1, g2⟩ := h2 y kl' hy hkey'
    exact ⟨g1, fun c' hc' zd => by rw [Maps.atKey_put_other hne]; exact g2 c' hc' zd⟩
/-- a range over it: what is still to come -/
def MapRg (P : Program) (k e : TypeId) (enc : κ → Value) (wf : κ → Prop) (lit : ν → DataW Unit) (w : World) (b r n : Nat) (m : κ → Option ν) (left : κ → Bool) (cnt : Nat) : Prop :=
  ∃ (D : DataW Unit) (lf : Lit → Bool), w.ranges P k (plainElem P e) b r n D lf cnt ∧ Tells P k enc wf lit D m ∧ ∀ x kl, wf x → keyOf P k (enc x) = some kl → lf kl = left x
theorem MapRg.grown {w w' : World} {b r n cnt : Nat} {m : κ → Option ν} {left : κ → Bool} (h : MapRg P k e enc wf lit w b r n m left cnt) {row : Option Nat} (hg : w.grownBy w' row) (h1 : some b ≠ row) (h2 : some r ≠ row) : MapRg P k e enc wf lit w' b r n m left cnt := by
  obtain ⟨D, lf, g1, g2, g3⟩ := h
  exact ⟨D, lf, g1.kept hg h1 h2, g2, g3⟩
theorem MapRg.keep {w w' : World} {b r n cnt : Nat} {m : κ → Option ν} {left : κ → Bool} (h : MapRg P k e enc wf lit w b r n m left cnt) (hk : Keeps w w') : MapRg P k e enc wf lit w' b r n m left cnt := h.grown (hk.grown none) (by simp) (by simp)
theorem MapRg.lt {w : World} {b r n cnt : Nat} {m : κ → Option ν} {left : κ → Bool} (h : MapRg P k e enc wf lit w b r n m left cnt) : b < w.heap.size ∧ r < w.heap.size := by
  obtain ⟨D, lf, g1, -⟩ := h
  exact ⟨g1.owns.lt, g1.lt⟩
theorem MapRg.left_eq {w : World} {b r n cnt : Nat} {m : κ → Option ν} {left : κ → Bool} (h : MapRg P k e enc wf lit w b r n m left cnt) : w.rangeLeft b r = cnt := by
  obtain ⟨D, lf, g1, -⟩ := h
  exact g1.left_eq
theorem MapF.range (M : MK P t k e enc wf venc lit wv z0) {w : World} {b n : Nat} {m : κ → Option ν} (h : MapF P k e enc wf lit w b n m) :
    ∃ w' cnt, (Instr.range t (.map (some b))).run P w = .ok (.pointer (some ⟨w.heap.size, 0, none⟩)) w' ∧ MapRg P k e enc wf lit w' b w.heap.size n m (fun x => (m x).isSome) cnt ∧ w.grownBy w' none ∧ w'.heap.size = w.heap.size + 1 := by
  obtain ⟨D, h1, h2⟩ := h
  obtain ⟨w', hrun, hr, hg, hs⟩ := h1.range M.K M.ht
  exact ⟨w', _, hrun, ⟨D, _, hr, h2, fun x kl hx hkey => (h2 x kl hx hkey).1⟩, hg, hs⟩
theorem MapRg.next [DecidableEq κ] (M : MK P t k e enc wf venc lit wv z0) {w : World} {b r n cnt : Nat} {m : κ → Option ν} {left : κ → Bool} (h : MapRg P k e enc wf lit w b r n m left cnt) (ty : TypeId) :
    (cnt = 0 ∧ (∀ x, wf x → left x = false) ∧ (Instr.next (.pointer (some ⟨r, 0, none⟩)) false ty).run P w = .ok (.tuple #[.bool false]) w) ∨
    ∃ x c w' cnt', wf x ∧ wv c ∧ left x = true ∧ m x = some c ∧ (Instr.next (.pointer (some ⟨r, 0, none⟩)) false ty).run P w = .ok (.tuple #[.bool true, enc x, venc c]) w' ∧
      MapRg P k e enc wf lit w' b r n m (fun z => left z && !decide (z = x)) cnt' ∧ cnt' < cnt ∧ w.grownBy w' (some r) ∧ w'.heap.size = w.heap.size ∧ (Instr.entry (.pointer (some ⟨r, 0, none⟩))).run P w' = .ok (.tuple #[enc x, venc c]) w' := by
  obtain ⟨D, lf, h1, h2, h3⟩ := h
  rcases h1.next M.K ty with ⟨h0, hl, hrun⟩ | ⟨key, v, kl, y, w', cnt', hkey, hlk, hv, hat, hrun, hrg, hlt, hgr, hsz, hen⟩
  · refine Or.inl ⟨h0, fun x hx => ?_, hrun⟩
    obtain ⟨kl, hk⟩ := M.key x hx
    rw [← h3 x kl hx hk]
    exact hl kl
  · obtain ⟨x, hx, rfl⟩ := M.inv _ _ hkey
    obtain ⟨c, hwc, rfl, rfl⟩ := M.vinv _ _ hv
    obtain ⟨g1, g2⟩ := h2 x kl hx hkey
    have hh := Maps.has_true_of_atKey hat
    rw [hh] at g1
    obtain ⟨c0, hc0⟩ := Option.isSome_iff_exists.1 g1.symm
    have e1 := g2 c0 hc0 .nil
    rw [hat .nil] at e1
    have e2 := M.linj _ _ e1
    subst e2
    refine Or.inr ⟨x, c, w', cnt', hx, hwc, by rw [← h3 x kl hx hkey]; exact hlk, hc0, hrun, ⟨D, _, hrg, h2, fun z kz hz hkz => ?_⟩, hlt, hgr, hsz, hen⟩
    show (lf kz && !kz.sameKey kl) = (left z && !decide (z = x))
    rw [h3 z kz hz hkz]
    congr 2
    by_cases q : z = x
    · subst q
      obtain rfl := Option.some.inj (hkey.symm.trans hkz)
      rw [decide_eq_true rfl]
      exact WideAt.sameKey_self (M.K.key hkey)
    · rw [decide_eq_false q]
      exact Maps.sameKey_ne fun e => q (M.inj _ _ (M.K.inj hkz (by rw [e]; exact hkey)))
end
section
variable {P : Program} {t k e : TypeId} {κ ν : Type} {enc : κ → Value} {wf : κ → Prop} {venc : ν → Value} {lit : ν → DataW Unit} {wv : ν → Prop} {z0 : ν}
variable (w : World) {ops : Array Oper} {rest : List Oper} {o : Oper} {a : Act} {Q : Exit → Act → World → Prop}
/-- 'v, ok := m[x]' at the operation -/
theorem wpList_look_ok (hg : o.guard = none) (m x : Operand) (hop : o.op = Op.lookup t m x true) (M : MK P t k e enc wf venc lit wv z0) (b n : Nat) (mf : κ → Option ν)
    (hm : a.eval m = .map (some b)) (h : MapF P k e enc wf lit w b n mf) (y : κ) (hx : a.eval x = enc y) (hy : wf y)
    (hK : wpList P ops Q rest (a.put o.dst (.tuple #[venc ((mf y).getD z0), .bool (mf y).isSome])) w) : wpList P ops Q (o :: rest) a w := by
  refine wpList_plain hg fun K' hK' => ?_
  have hrun := (h.look M hy true).1
  unfold Oper.wp
  simp [execOp, hop, hm, hx, hrun, Result.andThen]
  exact hK' _ _ hK
/-- 'm[x]' at the operation -/
theorem wpList_look (hg : o.guard = none) (m x : Operand) (hop : o.op = Op.lookup t m x false) (M : MK P t k e enc wf venc lit wv z0) (b n : Nat) (mf : κ → Option ν)
    (hm : a.eval m = .map (some b)) (h : MapF P k e enc wf lit w b n mf) (y : κ) (hx : a.eval x = enc y) (hy : wf y)
    (hK : wpList P ops Q rest (a.put o.dst (venc ((mf y).getD z0))) w) : wpList P ops Q (o :: rest) a w := by
  refine wpList_plain hg fun K' hK' => ?_
  have hrun := (h.look M hy false).1
  unfold Oper.wp
  simp [execOp, hop, hm, hx, hrun, Result.andThen]
  exact hK' _ _ hK
/-- 'm[x] = c' at the operation -/
theorem wpList_put [DecidableEq κ] (hg : o.guard = none) (m x v : Operand) (hop : o.op = Op.mapUpdate t m x v) (M : MK P t k e enc wf venc lit wv z0) (b n : Nat) (mf : κ → Option ν)
    (hm : a.eval m = .map (some b)) (h : MapF P k e enc wf lit w b n mf) (hn : n < maxLen) (y : κ) (hx : a.eval x = enc y) (hy : wf y) (c : ν) (hv : a.eval v = venc c) (hc : wv c)
    (hK : ∀ w', MapF P k e enc wf lit w' b (n + 1) (fun z => if z = y then some c else mf z) → w.grownBy w' (some b) → wpList P ops Q rest (a.put o.dst undef) w') : wpList P ops Q (o :: rest) a w := by
  refine wpList_plain hg fun K' hK' => ?_
  obtain ⟨w', hrun, h1, h2⟩ := h.put M hn hy hc
  unfold Oper.wp
  simp [execOp, hop, hm, hx, hv, hrun, Result.andThen]
  exact hK' _ _ (hK w' h1 h2)
/-- 'range m' at the operation -/
theorem wpList_rg (hg : o.guard = none) (m : Operand) (hop : o.op = Op.range t m) (M : MK P t k e enc wf venc lit wv z0) (b n : Nat) (mf : κ → Option ν) (hm : a.eval m = .map (some b)) (h : MapF P k e enc wf lit w b n mf)
    (hK : ∀ w' cnt, MapRg P k e enc wf lit w' b w.heap.size n mf (fun x => (mf x).isSome) cnt → w.grownBy w' none → w'.heap.size = w.heap.size + 1 → wpList P ops Q rest (a.put o.dst (.pointer (some ⟨w.heap.size, 0, none⟩))) w') : wpList P ops Q (o :: rest) a w := by
  refine wpList_plain hg fun K' hK' => ?_
  obtain ⟨w', cnt, hrun, h1, h2, h3⟩ := h.range M
  unfold Oper.wp
  simp [execOp, hop, hm, hrun, Result.andThen]
  exact hK' _ _ (hK w' cnt h1 h2 h3)
/-- a range's step at the operation -/
theorem wpList_nx [DecidableEq κ] (hg : o.guard = none) (it : Operand) (hop : o.op = Op.next it false) (M : MK P t k e enc wf venc lit wv z0) (b r n : Nat) (mf : κ → Option ν) (left : κ → Bool) (cnt : Nat)
    (hit : a.eval it = .pointer (some ⟨r, 0, none⟩)) (h : MapRg P k e enc wf lit w b r n mf left cnt)
    (hDone : cnt = 0 → (∀ x, wf x → left x = false) → wpList P ops Q rest (a.put o.dst (.tuple #[.bool false])) w)
    (hMore : ∀ x c w' cnt', wf x → wv c → left x = true → mf x = some c → MapRg P k e enc wf lit w' b r n mf (fun z => left z && !decide (z = x)) cnt' → cnt' < cnt → w.grownBy w' (some r) → w'.heap.size = w.heap.size →
      (Instr.entry (.pointer (some ⟨r, 0, none⟩))).run P w' = .ok (.tuple #[enc x, venc c]) w' → wpList P ops Q rest (a.put o.dst (.tuple #[.bool true, enc x, venc c])) w') : wpList P ops Q (o :: rest) a w := by
  refine wpList_plain hg fun K' hK' => ?_
  unfold Oper.wp
  rcases h.next M o.type with ⟨h0, hl, hrun⟩ | ⟨x, c, w', cnt', hx, hc, hlx, hmx, hrun, hrg, hlt, hgr, hsz, hen⟩
  · simp [execOp, hop, hit, hrun, Result.andThen]
    exact hK' _ _ (hDone h0 hl)
  · simp [execOp, hop, hit, hrun, Result.andThen]
    exact hK' _ _ (hMore x c w' cnt' hx hc hlx hmx hrg hlt hgr hsz hen)
end
/-- a map of ints -/
def litI (c : Int) : DataW Unit := .lit (.int .i64 c)
def wfI (c : Int) : Prop := (Lit.int .i64 c).wf = true
theorem wfI_of {c : Int} (h0 : -9223372036854775808 ≤ c) (h1 : c ≤ 9223372036854775807) : wfI c := by
  unfold wfI Lit.wf
  simp
  first | omega | exact ⟨h0, h1⟩ | (refine ⟨?_, ?_⟩ <;> omega) | skip
end Go.Proofs.YtjnhiiidcjajbaaGreatDoor.BH
