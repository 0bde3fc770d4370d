/-
(*finder).plain: an instruction as it stands in a block: a C
-/
import Derived.Test.YtgdamggkaklhjaaDoorFlRec3
set_option linter.all false
section
namespace Go.Proofs.YtgdamggkaklhjaaDoor
open Go.RowKit BH
set_option maxHeartbeats 1000000000
set_option maxRecDepth 100000
def icV (i : Ic) : Value := insV i.K i.D i.A i.B i.N i.Lg
theorem plain1_any {tp : Nat} {A N y z : Int} {s : ByteArray} {w : World} (h0 : w.cell? ⟨tp, 0, none⟩ = some (.int .i64 A)) (h6 : w.cell? ⟨tp, 6, none⟩ = some (.int .i64 N)) (hb : 0 ≤ A ∧ A ≤ 2000 ∧ -32768 ≤ N ∧ N ≤ 32767) :
  Calls Tryd.prog 75 #[.agg #[.string s, .int .i64 y, .int .i64 z], .pointer (some ⟨tp, 0, none⟩)] w fun e w' => e = .returned (.bool (decide (y = A + N))) ∧ Keeps w w' := by
 have hl := lt_of_cell h0
 have wAN : IntKind.i64.wrap (A + N) = A + N := jw
 go_enter Tryd.func75, Tryd.ntmps75
 go_wp2_with fail
 go_ret
 exact ⟨rfl, (Keeps.refl _).alloc _⟩
theorem plain_any {m : Img} {xb : Nat} {v1 : Value} {s : Sp} {w : World} (h1 : w.cell? ⟨xb, 1, none⟩ = some v1) (hF : Funs w v1 m.Funcs) (hs : SpOk s) :
  Calls Tryd.prog 60 #[.pointer (some ⟨xb, 0, none⟩), .agg #[.int .i64 s.A, .int .i64 s.Z, .int .i64 s.I.K, .int .i64 s.I.D, .int .i64 s.I.A, .int .i64 s.I.B, .int .i64 s.I.N, .bool s.I.Lg]] w fun e w' => e = .returned (icV (plainI m s)) ∧ Keeps w w' := by
 obtain ⟨A, Z, ⟨K, D, A2, B, N, Lg⟩⟩ := s
 obtain ⟨a0, a1, Hf, Hg, n0, n1, k0, k1, Hh⟩ := hs
 dsimp only at a0 a1 Hf Hg n0 n1 k0 k1 Hh ⊢
 have Hi := lt_of_cell h1
 dsimp only at Hi
 have HF := jH hF
 obtain ⟨fo, H9, rfl, -⟩ := hF
 obtain ⟨W, hW, H2, H3, H7, hsW⟩ := two_blocks' w (.cells #[.int .i64 A, .int .i64 Z, .int .i64 K, .int .i64 D, .int .i64 A2, .int .i64 B, .int .i64 N, .bool Lg] 85) (.cells #[.int .i64 0, .int .i64 0, .int .i64 0, .int .i64 0, .int .i64 0, .bool false] 64)
 obtain ⟨b3, H4⟩ := jE (w.heap.size)
 obtain ⟨b4, H5⟩ := jE (w.heap.size + 1)
 have hx1 := H2.cell h1
 by_cases h23 : K = 23
 ·have Hj : (K == 23) = true := by simpa using h23
  obtain ⟨R, hR⟩ := jE (fnAt m (A + N))
  have H6 : plainI m ⟨A, Z, ⟨K, D, A2, B, N, Lg⟩⟩ = ⟨K, D, A2, B, R, Lg⟩ := by unfold plainI; rw [if_pos h23, hR]; rfl
  have Hd : ∀ W', Keeps W W' → Calls Tryd.prog 74 #[.slice fo m.Funcs.length H9, .func (.func 75) #[] #[.pointer (some ⟨w.heap.size, 0, none⟩)]] W' fun e w' => e = .returned (.int .i64 R) ∧ Keeps W' w' := fun W' hk' => by rw [hR]; (refine indexFunc_fun _ m.Funcs.length (fun i j => (nth m.Funcs i).c j) _ 75 _ W' (Arr.keep HF.out (H2.trans hk')) (enters_of Tryd.func75 jx rfl) ?_); intro W2 i hi He; exact plain1_any ((H3.keep (hk'.trans He)).cell rfl) ((H3.keep (hk'.trans He)).cell rfl) ⟨a0, a1, n0, n1⟩
  rw [H6]
  obtain ⟨Hk, HW, H8, Ha⟩ := hid4 Hd hW H3 H7
  have Hb := jH H2
  clear h23 hR H6 Hd hW H3 H7 h1 H2 H4 H5
  go_enter Tryd.func60, Tryd.ntmps60
  go_upto_region 1 with fail
  rw [← HW.out]
  have c2 := H8.out.cell (j := 2) rfl
  go_wp2_with (go_at_call 74; refine (Hk.out _ ku5).mono ?_; rintro e wa ⟨rfl, Hc⟩; have H1 := H8.out.keep Hc; have H0 := Ha.out.keep Hc; have d0 := H1.cell (j := 0) rfl; have d1 := H1.cell (j := 1) rfl; have d2 := H1.cell (j := 2) rfl; have d3 := H1.cell (j := 3) rfl; have d4 := H1.cell (j := 4) rfl; have d5 := H1.cell (j := 5) rfl; have d6 := H1.cell (j := 6) rfl; have d7 := H1.cell (j := 7) rfl; have f6 := H1.thawed 6; have l3 := H1.lt; have l4 := H0.lt; have e0 := H0.cell (j := 0) rfl; have e1 := H0.cell (j := 1) rfl; have e2 := H0.cell (j := 2) rfl; have e3 := H0.cell (j := 3) rfl; have e4 := H0.cell (j := 4) rfl; have e5 := H0.cell (j := 5) rfl; have g0 := H0.thawed 0; have g1 := H0.thawed 1; have g2 := H0.thawed 2; have g3 := H0.thawed 3; have g4 := H0.thawed 4; have g5 := H0.thawed 5)
  refine bodyPost_ret (v := .agg #[.int .i64 K, .int .i64 D, .int .i64 A2, .int .i64 B, .int .i64 R, .bool Lg]) (by simp [results, Tryd.results60, go_sem, *]) rfl ⟨rfl, ?_⟩
  repeat (refine Keeps.setCell ?_ (by dsimp only; omega) _)
  exact Hb.out.trans Hc
 have Hj : (K == 23) = false := by simpa using h23
 have H6 : plainI m ⟨A, Z, ⟨K, D, A2, B, N, Lg⟩⟩ = ⟨K, D, A2, B, N, Lg⟩ := by unfold plainI; rw [if_neg h23]; rfl
 rw [H6]
 obtain ⟨HW, H8, Ha, Hb⟩ := hid4 hW H3 H7 H2
 clear h23 H6 hW H3 H7 h1 H2 H4 H5
 go_enter Tryd.func60, Tryd.ntmps60
 go_upto_region 1 with fail
 rw [← HW.out]
 have H1 := H8.out
 have H0 := Ha.out
 obtain ⟨d0, d1, d2, d3, d4, d5⟩ := H1.k6
 have d6 := H1.cell (j := 6) rfl
 have d7 := H1.cell (j := 7) rfl
 have l3 := H1.lt
 have l4 := H0.lt
 obtain ⟨e0, e1, e2, e3, e4, e5⟩ := H0.k6
 obtain ⟨g0, g1, g2, g3, g4, g5⟩ := H0.t6
 go_wp2_with fail
 refine bodyPost_ret (v := .agg #[.int .i64 K, .int .i64 D, .int .i64 A2, .int .i64 B, .int .i64 N, .bool Lg]) (by simp [results, Tryd.results60, go_sem, *]) rfl ⟨rfl, ?_⟩
 repeat (refine Keeps.setCell ?_ (by dsimp only; omega) _)
 exact Hb.out
end Go.Proofs.YtgdamggkaklhjaaDoor
end
section
namespace Go.Proofs.YtgdamggkaklhjaaDoor
open BH
set_option maxRecDepth 100000
theorem ext_nth {α : Type} [Inhabited α] {l r : List α} (hl : l.length = r.length) (h : ∀ i, i < l.length → nth l i = nth r i) : l = r := by
 refine List.ext_getElem hl fun i h1 h2 => ?_
 have := h i h1
 rw [nth_eq _ _ h1, nth_eq _ _ h2] at this
 exact this
theorem shapeN_lt (k : Nat) : shapeN k < 12 := by
 rcases Nat.lt_or_ge k 25 with h | h
 ·exact (shapeN_eq k jo).2
 unfold shapeN
 rw [List.getD_eq_getElem?_getD, List.getElem?_eq_none (by simpa using h)]
 decide
theorem szI_nn (i : Ic) : 0 ≤ szI i := by
 have := (sizeT_bd _ (shapeN_lt i.K.toNat)).1
 unfold szI insSize
 split <;> omega
theorem szI_lng (t : It) (a : Bool) : szI (lngI t a).I = sizeT (shapeN t.I.K.toNat) + if (t.I.Lg || a) = true then 1 else 0 := rfl
theorem szI_mono (t : It) {a b : Bool} (h : a = true → b = true) : szI (lngI t a).I ≤ szI (lngI t b).I := by
 rw [szI_lng, szI_lng]
 cases t.I.Lg <;> cases a <;> cases b <;> simp at h ⊢ <;> omega
def Lng (its : List It) (S : Nat → Bool) : List It := (List.range its.length).map fun j => lngI (nth its j) (S j)
section
variable {its : List It} {fst : List Int} {S T : Nat → Bool}
theorem Lng_len (its : List It) (S : Nat → Bool) : (Lng its S).length = its.length := by simp [Lng]
theorem Lng_nth {j : Nat} (h : j < its.length) : nth (Lng its S) j = lngI (nth its j) (S j) := nthRange _ h
theorem nth_out {α : Type} [Inhabited α] {l : List α} {j : Nat} (h : l.length ≤ j) : nth l j = default := by
 unfold nth
 rw [List.getD_eq_getElem?_getD, List.getElem?_eq_none h]
 rfl
theorem Lng_no (its : List It) : Lng its (fun _ => false) = its := by
 refine ext_nth (Lng_len _ _) fun i hi => ?_
 rw [Lng_len] at hi
 rw [Lng_nth hi, lngI_no]
theorem Lng_same (h : ∀ k, k < its.length → S k = T k) : Lng its S = Lng its T := by
 refine ext_nth (by rw [Lng_len, Lng_len]) fun i hi => ?_
 rw [Lng_len] at hi
 rw [Lng_nth hi, Lng_nth hi, h i hi]
theorem Lng_sz (h : ∀ k, S k = true → T k = true) (k : Nat) : szI (nth (Lng its S) k).I ≤ szI (nth (Lng its T) k).I := by
 rcases Nat.lt_or_ge k its.length with q | q
 ·rw [Lng_nth q, Lng_nth q]
  exact szI_mono _ (h k)
 rw [nth_out (by rw [Lng_len]; exact q), nth_out (by rw [Lng_len]; exact q)]
 exact Int.le_refl _
theorem ad_mono (its : List It) (a : Nat) : ∀ d, adI its a ≤ adI its (a + d)
 | 0 => Int.le_refl _
 | d + 1 => by have := ad_mono its a d; have := szI_nn (nth its (a + d)).I; (show _ ≤ adI its (a + d) + szI (nth its (a + d)).I); omega
theorem ad_diff (h : ∀ k, S k = true → T k = true) (a : Nat) : ∀ d, adI (Lng its S) (a + d) - adI (Lng its S) a ≤ adI (Lng its T) (a + d) - adI (Lng its T) a
 | 0 => by simp
 | d + 1 => by have h1 := ad_diff h a d; have h2 := Lng_sz (its := its) h (a + d); (show adI (Lng its S) (a + d) + szI (nth (Lng its S) (a + d)).I - _ ≤ adI (Lng its T) (a + d) + szI (nth (Lng its T) (a + d)).I - _); omega
theorem far_mono (h : ∀ k, S k = true → T k = true) {k : Nat} (hk : k < its.length) (hf : farI (Lng its S) fst k = true) : (nth its k).I.Lg = false ∧ S k = false ∧ (farI (Lng its T) fst k = true ∨ T k = true) := by
 unfold farI at hf ⊢
 rw [Lng_nth hk] at hf ⊢
 simp only [Bool.and_eq_true, decide_eq_true_eq, Bool.not_eq_true', Bool.or_eq_true] at hf
 obtain ⟨h0, h1, h2⟩ := hf
 have H0 : ((nth its k).I.Lg || S k) = false := h1
 rw [Bool.or_eq_false_iff] at H0
 refine ⟨H0.1, H0.2, ?_⟩
 cases hT : T k with
 | true => exact Or.inr rfl
 | false =>
  refine Or.inl ?_
  have h0' : (0 : Int) ≤ (nth its k).Bl := h0
  have h3 : ((nth its k).I.Lg || T k) = false := by rw [H0.1, hT]; rfl
  simp only [Bool.and_eq_true, decide_eq_true_eq, Bool.not_eq_true', Bool.or_eq_true]
  refine ⟨h0, by rw [hT] at h3; exact h3, ?_⟩
  unfold dsI at h2 ⊢
  rw [Lng_nth hk] at h2 ⊢
  have e : ∀ b : Bool, (lngI (nth its k) b).Bl = (nth its k).Bl := fun _ => rfl
  rw [e] at h2 ⊢
  obtain ⟨q, hq⟩ := jE ((nth fst (nth its k).Bl.toNat).toNat)
  rw [← hq] at h2 ⊢
  rcases Nat.le_total k q with z | z
  ·obtain ⟨d, rfl⟩ : ∃ d, q = k + d := ⟨q - k, by omega⟩
   have := ad_diff (its := its) h k d
   have := ad_mono (Lng its S) k d
   omega
  obtain ⟨d, rfl⟩ : ∃ d, k = q + d := ⟨k - q, by omega⟩
  have := ad_diff (its := its) h q d
  have := ad_mono (Lng its S) q d
  omega
def Closed (its : List It) (fst : List Int) (S : Nat → Bool) : Prop := anyFar (Lng its S) fst = false
def Low (its : List It) (fst : List Int) (S : Nat → Bool) : Prop := (∀ k, its.length ≤ k → S k = false) ∧ ∀ T, Closed its fst T → ∀ k, S k = true → T k = true
theorem Low.no (its : List It) (fst : List Int) : Low its fst (fun _ => false) := ⟨fun _ _ => rfl, fun _ _ _ h => by cases h⟩
theorem Low.more (h : Low its fst S) (F : Nat → Bool) (hF : ∀ k, F k = true → k < its.length ∧ farI (Lng its S) fst k = true) : Low its fst (fun k => S k || F k) := by
 refine ⟨fun k hk => ?_, fun T hT k hk => ?_⟩
 ·rw [Bool.or_eq_false_iff]
  refine ⟨h.1 k hk, ?_⟩
  cases q : F k with
  | false => rfl
  | true => exact absurd (hF k q).1 jo
 rw [Bool.or_eq_true] at hk
 rcases hk with hk | hk
 ·exact h.2 T hT k hk
 obtain ⟨hl, hf⟩ := hF k hk
 obtain ⟨-, -, z⟩ := far_mono (T := T) (fun j hj => h.2 T hT j hj) hl hf
 rcases z with z | z
 ·have := anyN_false hT k (by rw [Lng_len]; exact hl)
  rw [this] at z
  cases z
 exact z
theorem low_one (h1 : Low its fst S) (c1 : Closed its fst S) (h2 : Low its fst T) (c2 : Closed its fst T) : Lng its S = Lng its T := by
 refine Lng_same fun k _ => ?_
 cases hs : S k with
 | true => exact (h1.2 T c2 k hs).symm
 | false =>
  cases ht : T k with
  | false => rfl
  | true => rw [h2.2 S c1 k ht] at hs; cases hs
theorem lng_lng (t : It) (a b : Bool) : lngI (lngI t a) b = lngI t (a || b) := by
 unfold lngI
 simp only [Bool.or_assoc]
theorem Lng_more (F : Nat → Bool) : (List.range (Lng its S).length).map (fun j => lngI (nth (Lng its S) j) (F j)) = Lng its (fun k => S k || F k) := by
 refine ext_nth (by simp [Lng_len]) fun i hi => ?_
 rw [List.length_map, List.length_range, Lng_len] at hi
 rw [nthRange _ (by rw [Lng_len]; exact hi), Lng_nth hi, Lng_nth hi, lng_lng]
theorem rnd_is : rnd (Lng its S) fst = Lng its (fun k => S k || (decide (k < its.length) && farI (Lng its S) fst k)) := by
 unfold rnd rndK
 rw [Lng_more]
 rw [Lng_len]
def shorts (its : List It) : Nat := (its.filter fun t => !t.I.Lg).length
theorem filter_le {α : Type} {β : Type} (f : α → β) (g : α → β) (p : β → Bool) : ∀ l : List α, (∀ x ∈ l, p (g x) = true → p (f x) = true) → ((l.map g).filter p).length ≤ ((l.map f).filter p).length
 | [], _ => Nat.le_refl _
 | x :: r, h => by
  have ih := filter_le f g p r fun y hy => h y (List.mem_cons_of_mem _ hy)
  have hx := h x List.mem_cons_self
  simp only [List.map_cons, List.filter_cons]
  cases hg : p (g x) <;> cases hf : p (f x)
  ·simpa using ih
  ·simp; omega
  ·rw [hx hg] at hf; cases hf
  simpa using ih
theorem filter_lt {α : Type} {β : Type} (f : α → β) (g : α → β) (p : β → Bool) : ∀ l : List α, (∀ x ∈ l, p (g x) = true → p (f x) = true) → (∃ x ∈ l, p (f x) = true ∧ p (g x) = false) → ((l.map g).filter p).length < ((l.map f).filter p).length
 | [], _, h => by obtain ⟨x, hx, _⟩ := h; cases hx
 | x :: r, h, h2 => by
  simp only [List.map_cons, List.filter_cons]
  have ih := filter_le f g p r fun y hy => h y (List.mem_cons_of_mem _ hy)
  have hx := h x List.mem_cons_self
  obtain ⟨y, hy, h3, h4⟩ := h2
  rcases List.mem_cons.1 hy with rfl | hy
  ·rw [h3, h4]; simp; omega
  have ih2 := filter_lt f g p r (fun y hy => h y (List.mem_cons_of_mem _ hy)) ⟨y, hy, h3, h4⟩
  cases hg : p (g x) <;> cases hf : p (f x)
  ·simpa using ih2
  ·simp; omega
  ·rw [hx hg] at hf; cases hf
  simpa using ih2
theorem shorts_le (its : List It) : shorts its ≤ its.length := List.length_filter_le _ _
theorem shorts_lt (h : ∀ k, S k = true → T k = true) {k : Nat} (hk : k < its.length) (h0 : (nth its k).I.Lg = false) (hs : S k = false) (ht : T k = true) : shorts (Lng its T) < shorts (Lng its S) := by
 refine filter_lt _ _ _ _ (fun j _ hj => ?_) ⟨k, List.mem_range.2 hk, ?_, ?_⟩
 ·have H0 : (!((nth its j).I.Lg || T j)) = true := hj
  show (!((nth its j).I.Lg || S j)) = true
  cases hl : (nth its j).I.Lg with
  | true => rw [hl] at H0; cases H0
  | false =>
   cases hS : S j with
   | false => rfl
   | true => rw [h j hS, Bool.or_true] at H0; cases H0
 ·show (!((nth its k).I.Lg || S k)) = true
  rw [h0, hs]; rfl
 show (!((nth its k).I.Lg || T k)) = false
 rw [ht, Bool.or_true]; rfl
theorem rnd_short (hf : anyFar (Lng its S) fst = true) : shorts (rnd (Lng its S) fst) < shorts (Lng its S) := by
 obtain ⟨k, hk, hb⟩ := anyN_true hf
 rw [Lng_len] at hk
 obtain ⟨h0, hs, -⟩ := far_mono (T := S) (fun _ h => h) hk hb
 rw [rnd_is]
 exact shorts_lt (fun j hj => by rw [hj]; rfl) hk h0 hs (by rw [hs, hb, decide_eq_true hk]; rfl)
theorem setl_is : ∀ (n : Nat) (S : Nat → Bool), Low its fst S → shorts (Lng its S) ≤ n → ∃ T, Low its fst T ∧ Closed its fst T ∧ setl fst n (Lng its S) = Lng its T
 | 0, S, h, hn => by
  refine ⟨S, h, ?_, rfl⟩
  cases hf : anyFar (Lng its S) fst with
  | false => exact hf
  | true => have := rnd_short hf; omega
 | n + 1, S, h, hn => by
  unfold setl
  cases hf : anyFar (Lng its S) fst with
  | false => exact ⟨S, h, hf, by rw [if_neg (by simp)]⟩
  | true =>
   rw [if_pos rfl]
   have h1 := rnd_short hf
   rw [rnd_is] at h1 ⊢
   exact setl_is n _ (h.more _ fun k hk => by rw [Bool.and_eq_true, decide_eq_true_eq] at hk; exact hk) jo
def setI (fst : List Int) (its : List It) : List It := setl fst its.length its
theorem setI_low (its : List It) (fst : List Int) : ∃ T, Low its fst T ∧ Closed its fst T ∧ setI fst its = Lng its T := by
 have h := setl_is (its := its) (fst := fst) its.length _ (Low.no its fst) (by rw [Lng_no]; exact shorts_le _)
 rw [Lng_no] at h
 exact h
theorem setI_is (h : Low its fst S) (c : Closed its fst S) : Lng its S = setI fst its := by
 obtain ⟨T, h1, h2, h3⟩ := setI_low its fst
 rw [h3]
 exact low_one h c h1 h2
end
end Go.Proofs.YtgdamggkaklhjaaDoor
end
