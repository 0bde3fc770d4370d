/-
  place.Order in plain terms: the heat of blocks and the chains, edge by edge; their bounds; and heat as the document reckons it.
-/
import Derived.Test.YtofaghcnkppmbaaOrdPartsM
import Derived.Test.YtofaghcnkppmbaaOrdHeat
import Derived.Test.YtofaghcnkppmbaaOrdSt
namespace Go.Proofs.Ytofaghcnkppmbaa
open Go.RowKit BH Go.Sort
set_option maxHeartbeats 10000000
set_option maxRecDepth 100000
/-- an edge may be, between n blocks -/
def EdOk (n : Nat) (e : Ed) : Prop := (0 ≤ e.From ∧ e.From < n) ∧ (0 ≤ e.To ∧ e.To < n) ∧ 0 ≤ e.Count ∧ e.Count ≤ 1073741824
def heatStep (H : List Int) (e : Ed) : List Int := H.set e.From.toNat (nth H e.From.toNat + e.Count)
def heatL (n : Nat) (l : List Ed) : List Int := l.foldl heatStep (List.replicate n 0)
def stepO (f : Fl) (s : Cs) (e : Ed) : Cs := if fnc f e.From.toNat = fnc f e.To.toNat ∧ ¬ nth f.Firsts (fnc f e.To.toNat).toNat = e.To then joinC s e.From e.To else s
def chL (f : Fl) (l : List Ed) : Cs := l.foldl (stepO f) (cs0 f.Blocks.length)
theorem heatL_snoc (n : Nat) (l : List Ed) (e : Ed) : heatL n (l ++ [e]) = heatStep (heatL n l) e := by unfold heatL; rw [List.foldl_append]; rfl
theorem chL_snoc (f : Fl) (l : List Ed) (e : Ed) : chL f (l ++ [e]) = stepO f (chL f l) e := by unfold chL; rw [List.foldl_append]; rfl
/-- lists from behind -/
theorem snoc_ind {α : Type} {P : List α → Prop} (h0 : P []) (h1 : ∀ l x, P l → P (l ++ [x])) : ∀ l, P l := by
  intro l
  have h : ∀ n (l : List α), l.length = n → P l := by
    intro n
    induction n with
    | zero => intro l hl; rw [List.eq_nil_of_length_eq_zero hl]; exact h0
    | succ n ih =>
      intro l hl
      have hne : l ≠ [] := fun e => by rw [e] at hl; cases hl
      rw [← List.dropLast_concat_getLast hne]
      exact h1 _ _ (ih _ (by rw [List.length_dropLast]; omega))
  exact h _ l rfl
theorem heatL_len (n : Nat) (l : List Ed) : (heatL n l).length = n := by
  induction l using snoc_ind with
  | h0 => simp [heatL]
  | h1 l x ih => rw [heatL_snoc]; unfold heatStep; rw [List.length_set]; exact ih
theorem stepO_inv {f : Fl} {s : Cs} {e : Ed} (h : CInv f.Blocks.length s) (he : EdOk f.Blocks.length e) : CInv f.Blocks.length (stepO f s e) := by
  unfold stepO
  split
  · exact h.step he.1 he.2.1
  · exact h
theorem chL_inv (f : Fl) (l : List Ed) (h : ∀ e, e ∈ l → EdOk f.Blocks.length e) : CInv f.Blocks.length (chL f l) := by
  induction l using snoc_ind with
  | h0 => exact CInv.zero _
  | h1 l x ih =>
    rw [chL_snoc]
    exact stepO_inv (ih fun e he => h e (List.mem_append_left _ he)) (h x (by simp))
theorem nth_repl (n j : Nat) (h : j < n) : nth (List.replicate n (0 : Int)) j = 0 := by rw [nth_eq _ _ (by simpa using h), List.getElem_replicate]
/-- heat, block by block, is heat, edge by edge -/
theorem sumH_step {H : List Int} {e : Ed} (he : 0 ≤ e.From ∧ e.From < H.length) : ∀ L : List Int, (∀ b, b ∈ L → 0 ≤ b ∧ b < H.length) → sumH (heatStep H e) L = sumH H L + heatE L e
  | [], _ => rfl
  | b :: r, h => by
    have ih := sumH_step he r fun x hx => h x (List.mem_cons_of_mem _ hx)
    have hb := h b (List.mem_cons_self ..)
    have e1 : ∀ K : List Int, sumH K (b :: r) = nth K b.toNat + sumH K r := fun _ => rfl
    have e2 : heatE (b :: r) e = (if b = e.From then e.Count else 0) + heatE r e := rfl
    rw [e1, e1, e2, ih]
    unfold heatStep
    rw [nth_set _ _ _ _ (by omega)]
    by_cases q : b = e.From
    · rw [if_pos (by rw [q]), if_pos q, q]; omega
    · rw [if_neg (by omega), if_neg q]; omega
theorem sumH_heat {n : Nat} {l : List Ed} (h : ∀ e, e ∈ l → EdOk n e) (L : List Int) (hL : ∀ b, b ∈ L → 0 ≤ b ∧ b < n) : sumH (heatL n l) L = heatR l L := by
  induction l using snoc_ind with
  | h0 =>
    have : ∀ L : List Int, (∀ b, b ∈ L → 0 ≤ b ∧ b < n) → sumH (heatL n []) L = 0 := fun L => by
      induction L with
      | nil => intro _; rfl
      | cons b r ih =>
        intro h
        have hb := h b (List.mem_cons_self ..)
        have e1 : sumH (heatL n []) (b :: r) = nth (heatL n []) b.toNat + sumH (heatL n []) r := rfl
        rw [e1, ih fun x hx => h x (List.mem_cons_of_mem _ hx)]
        have : nth (heatL n []) b.toNat = 0 := nth_repl n _ (by omega)
        omega
    rw [this L hL]
    rfl
  | h1 l x ih =>
    have hx := h x (by simp)
    rw [heatL_snoc, sumH_step (by rw [heatL_len]; exact hx.1) L (by rw [heatL_len]; exact hL), ih fun e he => h e (List.mem_append_left _ he), heatR_snoc]
theorem heatE_le {e : Ed} (h : 0 ≤ e.Count) : ∀ B : List Int, B.Nodup → heatE B e ≤ e.Count
  | [], _ => h
  | b :: r, hn => by
    have h1 := List.nodup_cons.1 hn
    have ih := heatE_le h r h1.2
    have e2 : heatE (b :: r) e = (if b = e.From then e.Count else 0) + heatE r e := rfl
    rw [e2]
    by_cases q : b = e.From
    · have e0 : ∀ r : List Int, e.From ∉ r → heatE r e = 0 := fun r => by
        induction r with
        | nil => intro _; rfl
        | cons c t ih =>
          intro hm
          have e3 : heatE (c :: t) e = (if c = e.From then e.Count else 0) + heatE t e := rfl
          rw [e3, if_neg (fun q => hm (by rw [q]; exact List.mem_cons_self ..)), ih fun q => hm (List.mem_cons_of_mem _ q)]
          rfl
      rw [if_pos q, e0 r (by rw [← q]; exact h1.1)]
      omega
    · rw [if_neg q]; omega
theorem heatR_le {n : Nat} (B : List Int) (hB : B.Nodup) (l : List Ed) (h : ∀ e, e ∈ l → EdOk n e) : heatR l B ≤ 1073741824 * (l.length : Int) := by
  induction l using snoc_ind with
  | h0 => exact Int.le_refl _
  | h1 l x ih =>
    have hx := h x (by simp)
    have := heatE_le hx.2.2.1 B hB
    have := ih fun e he => h e (List.mem_append_left _ he)
    have := hx.2.2.2
    rw [heatR_snoc, List.length_append]
    simp only [List.length_cons, List.length_nil]
    omega
theorem perm_sum {α : Type} {g : α → Int} {l k : List α} (h : l.Perm k) : (l.map g).sum = (k.map g).sum := by
  induction h with
  | nil => rfl
  | cons a _ ih => simp only [List.map_cons, List.sum_cons, ih]
  | swap a b l => simp only [List.map_cons, List.sum_cons]; omega
  | trans _ _ h1 h2 => exact h1.trans h2
theorem heatR_perm {l k : List Ed} (h : l.Perm k) (B : List Int) : heatR l B = heatR k B := perm_sum h
theorem sumH_flatten (H : List Int) : ∀ ls : List (List Int), (ls.map (sumH H)).sum = sumH H ls.flatten
  | [] => rfl
  | a :: r => by rw [List.map_cons, List.sum_cons, sumH_flatten H r, List.flatten_cons, sumH_append]
theorem cinv_flat {n : Nat} {s : Cs} (h : CInv n s) : s.ls.flatten.Nodup ∧ (∀ b, b ∈ s.ls.flatten → 0 ≤ b ∧ b < n) ∧ s.ls.flatten.length ≤ n := by
  have h1 : s.ls.flatten.Nodup := by
    unfold List.Nodup
    rw [List.pairwise_flatten]
    refine ⟨fun l hl => ?_, ?_⟩
    · obtain ⟨x, hx, e⟩ := List.mem_iff_getElem.1 hl
      have := h.nd x (by rw [← h.ll]; exact hx)
      rw [nth_eq _ _ hx, e] at this
      exact this
    · rw [List.pairwise_iff_getElem]
      intro i j hi hj hij a ha b hb e
      subst e
      rw [← nth_eq _ _ hi] at ha
      rw [← nth_eq _ _ hj] at hb
      have e1 := h.uniq (by rw [← h.ll]; exact hi) ha
      have e2 := h.uniq (by rw [← h.ll]; exact hj) hb
      omega
  have h2 : ∀ b, b ∈ s.ls.flatten → 0 ≤ b ∧ b < n := fun b hb => by
    obtain ⟨c, hc, hb⟩ := List.mem_flatten.1 hb
    obtain ⟨x, hx, e⟩ := List.mem_iff_getElem.1 hc
    exact h.bnd x (by rw [← h.ll]; exact hx) b (by rw [nth_eq _ _ hx, e]; exact hb)
  refine ⟨h1, h2, ?_⟩
  have := h1.length_le_of_subset (l₂ := (List.range n).map fun i : Nat => (i : Int)) fun b hb => List.mem_map.2 ⟨b.toNat, List.mem_range.2 (by have := h2 b hb; omega), by have := h2 b hb; omega⟩
  simpa using this
theorem cinv_rowlen {n : Nat} {s : Cs} (h : CInv n s) {x : Nat} (hx : x < n) : (nth s.ls x).length ≤ n :=
  Nat.le_trans (List.sublist_flatten_of_mem (nth_in (by rw [h.ll]; exact hx))).length_le (cinv_flat h).2.2
/-- what a slice of ints holds, read out of memory -/
def rdC (w : World) (x : Sv) : List Int :=
  match x.a with
  | none => []
  | some p => (List.range x.n).map fun j => intOf ((w.cell? ⟨p.block, p.off + j, none⟩).getD undef)
theorem rd_ints {w : World} {x : Sv} {l : List Int} (h : Ints w (argCh x) l) : rdC w x = l := by
  obtain ⟨xa, xn, xc⟩ := x
  obtain ⟨ao, cap, e, h1, h2, h3, h4⟩ := h
  unfold argCh at e
  injection e with e1 e2 e3
  dsimp only at e1 e2 e3
  subst e1 e2 e3
  unfold rdC
  rcases Nat.eq_zero_or_pos l.length with q | q
  · rw [List.eq_nil_of_length_eq_zero q]
    dsimp only
    split
    · rfl
    · simp
  · obtain ⟨b, off, rfl, hc⟩ := h4 q
    dsimp only
    apply List.ext_getElem
    · simp
    · intro i g1 g2
      have := hc i 0 g2 (by omega)
      simp only [Nat.mul_one, Nat.add_zero] at this
      rw [List.getElem_map, List.getElem_range, this, nth_eq _ _ g2]
      rfl
end Go.Proofs.Ytofaghcnkppmbaa
