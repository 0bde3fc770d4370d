/-
(*maker).program in plain terms, and what its walk asks. (*m
-/
import Derived.Test.YtgdamggkaklhjaaDoorPartOpen
set_option linter.all false
section
namespace Go.Proofs.YtgdamggkaklhjaaDoor
open Go.RowKit BH
set_option maxHeartbeats 1000000000
set_option maxRecDepth 100000
def stP (L : List It) (beg : List Int) (p : Pa) : Int := adI L (nth beg p.Func.toNat).toNat
def enP (L : List It) (beg : List Int) (l : List Pa) (k : Nat) : Int := if k + 1 < l.length then stP L beg (nth l (k + 1)) else adI L L.length
def fuP (m : Img) (L : List It) (beg : List Int) (l : List Pa) (k : Nat) : Fu := ⟨(nth m.Funcs (nth l k).Func.toNat).Name, stP L beg (nth l k), enP L beg l k - stP L beg (nth l k)⟩
def enE (m : Img) (l : List Pa) : Nat → Int
 | 0 => 0
 | k + 1 => if (nth l k).Func = m.Entry then (k : Int) else enE m l k
def encI (i : Ic) : List Int := encAns i.K i.D i.A i.B i.N i.Lg
def txI (L : List It) (fst beg : List Int) (k : Nat) : List Int := (List.range k).flatMap fun i => encI (finI L fst beg i)
def lnI (L : List It) : Nat → List Ln × Int
 | 0 => ([], 0)
 | k + 1 => if (nth L k).Li = (lnI L k).2 then lnI L k else ((lnI L k).1 ++ [⟨adI L k, (nth L k).Li⟩], (nth L k).Li)
def tbR (L : List It) (fst : List Int) (t : List Int) : List Int := t.map fun b => adI L (nth fst b.toNat).toNat
def outI (m : Img) (f : Fl) (l : List Pa) (L : List It) (fst beg : List Int) : Img :=
 ⟨(txI L fst beg L.length).map toB, (List.range l.length).map (fuP m L beg l), f.Tables.map (tbR L fst), m.Data, (lnI L L.length).1, enE m l l.length⟩
structure PrG (m : Img) (f : Fl) (l : List Pa) (L : List It) (fst beg : List Int) : Prop where
 fn : ∀ k, k < l.length → 0 ≤ (nth l k).Func ∧ (nth l k).Func.toNat < beg.length ∧ (nth l k).Func.toNat < m.Funcs.length
 bg : ∀ x, x < beg.length → 0 ≤ nth beg x ∧ nth beg x < L.length
 goes : ∀ k, k < L.length → 0 ≤ (nth L k).Bl → (nth L k).Bl.toNat < fst.length ∧ 0 ≤ nth fst (nth L k).Bl.toNat ∧ nth fst (nth L k).Bl.toNat < L.length
 fc : ∀ k, k < L.length → 0 ≤ (nth L k).Fn → (nth L k).Fn.toNat < beg.length
 tb : ∀ i, i < f.Tables.length → ∀ b ∈ nth f.Tables i, 0 ≤ b ∧ b.toNat < fst.length ∧ 0 ≤ nth fst b.toNat ∧ nth fst b.toNat < L.length
 len : L.length ≤ 1000000000
 parts : l.length ≤ 1000000000
 tabs : f.Tables.length ≤ 1000000000
 rows : ∀ i, i < f.Tables.length → (nth f.Tables i).length ≤ 1000000000
 data : m.Data.length ≤ 1000000000
theorem insBytes_le (k : Nat) (D A B N : Int) (Lg : Bool) : (insBytes k D A B N Lg).length ≤ 8 := by
 unfold insBytes
 repeat' split
 all_goals (try unfold lastB)
 all_goals first | (simp; done) | (split <;> simp) | (cases Lg <;> simp)
theorem insBytes_bd {K D A B N : Int} {Lg : Bool} : ∀ x ∈ encAns K D A B N Lg, 0 ≤ x ∧ x < 256 := by
 unfold encAns
 by_cases h : insFault K D A B N Lg = 0
 ·rw [if_pos h]
  obtain ⟨b1, b2⟩ := insFault_kind h
  obtain ⟨k, rfl⟩ : ∃ k : Nat, K = k := ⟨K.toNat, by omega⟩
  obtain ⟨-, -, ⟨r1, r2, r3, r4, r5, r6⟩, n1, n2, -⟩ := insFault_zero h
  rw [Int.toNat_natCast]
  obtain ⟨o1, o2, o3, o4⟩ := op_bounds k jo
  have H0 : ∀ Lg, ∀ x ∈ lastB N Lg, 0 ≤ x ∧ x < 256 := by
   intro Lg x hx
   cases Lg <;> simp [lastB, lowB, highB] at hx <;> omega
  unfold insBytes
  intro x hx
  rcases List.mem_cons.1 hx with rfl | hx
  ·cases Lg
   ·exact ⟨o1, o2⟩
   exact ⟨o3, o4⟩
  repeat' split at hx
  all_goals first
   | (simp at hx; done)
   | (exact H0 _ x hx)
   | (simp [lowB, highB] at hx; omega)
   | (rcases List.mem_cons.1 hx with rfl | hx
      ·omega
      exact H0 _ x hx)
 rw [if_neg h]; intro x hx; cases hx

theorem encI_le (i : Ic) : (encI i).length ≤ 8 := by
 unfold encI encAns
 split
 ·exact insBytes_le _ _ _ _ _ _
 exact Nat.zero_le _
theorem txI_succ (L : List It) (fst beg : List Int) (k : Nat) : txI L fst beg (k + 1) = txI L fst beg k ++ encI (finI L fst beg k) := by
 unfold txI
 rw [List.range_succ, List.flatMap_append]
 simp
theorem txI_le (L : List It) (fst beg : List Int) : ∀ k, (txI L fst beg k).length ≤ 8 * k
 | 0 => Nat.le_refl _
 | k + 1 => by rw [txI_succ, List.length_append]; have := txI_le L fst beg k; have := encI_le (finI L fst beg k); omega
theorem lnI_le (L : List It) : ∀ k, (lnI L k).1.length ≤ k
 | 0 => Nat.le_refl _
 | k + 1 => by
  have := lnI_le L k
  unfold lnI
  split
  ·omega
  rw [List.length_append, List.length_singleton]; omega
theorem txI_bd (L : List It) (fst beg : List Int) (k : Nat) : ∀ x ∈ txI L fst beg k, 0 ≤ x ∧ x < 256 := by
 intro x hx
 unfold txI at hx
 obtain ⟨i, -, hi⟩ := List.mem_flatMap.1 hx
 exact insBytes_bd x hi
theorem src_octs' {P : Program} {w : World} {tx e : TypeId} (htx : P.underlying tx = some (.slice e)) {x : Value} {l : List Int} (h : Octs w x l) : Src P 1 tx x l.length (l.flatMap cu) w :=
 src_arr jd cu_len cu_one htx (h.congr fun i j _ hj => by rw [show j = 0 by omega]; rfl)
theorem info_u8' : (Tryd.prog.info? 5).map (fun i => (i.zero, i.size, i.bytes)) = some (some (.int .u8 0), 1, 1) := by kernel_rfl
theorem info_fu' : (Tryd.prog.info? 40).map (fun i => (i.zero, i.size, i.bytes)) = some (some (.agg #[.string ⟨#[]⟩, .int .i64 0, .int .i64 0]), 3, 32) := by kernel_rfl
theorem info_ln' : (Tryd.prog.info? 42).map (fun i => (i.zero, i.size, i.bytes)) = some (some (.agg #[.int .i64 0, .int .i64 0]), 2, 16) := by kernel_rfl
theorem info_row' : (Tryd.prog.info? 25).map (fun i => (i.zero, i.size, i.bytes)) = some (some (.slice none 0 0), 1, 24) := by kernel_rfl
theorem OutS.start {w1 w2 w : World} {c : Nat → Nat} {vD : Value} {D : List Int} {B : Nat} (hk : Keeps w1 w2) (hD : Ints w2 vD D) (hn : NewAt w1.heap.size vD) (hw : w = w2.alloc (.cells #[.slice none 0 0, .slice none 0 0, .slice none 0 0, vD, .slice none 0 0, .int .i64 0] 28)) :
  ∃ c', (∀ I, Turn I c w1 c' w) ∧ OutS B c' w w2.heap.size (.slice none 0 0) (.slice none 0 0) (.slice none 0 0) vD (.slice none 0 0) 0 [] [] [] [] D [] := by
 have hs := hk.size
 have ht : w2.heap.size < w.heap.size := by rw [hw, sz_alloc]; omega
 have H0 : Keeps w2 w := by rw [hw]; exact (Keeps.refl _).alloc _
 refine ⟨fun b => if b = w2.heap.size then 1 else if w1.heap.size ≤ b then 6 else c b, fun I => ⟨(hk.trans H0).only _, fun b hb => ?_⟩, ⟨by rw [hw]; exact Blk.top _ _, if_pos rfl⟩, OwnC.nil _ _ _ _ _ _ _, OwnC.nil _ _ _ _ _ _ _, OwnC.nil _ _ _ _ _ _ _, ⟨_, (Foot.none w).imp fun w _ => rowsAt_nil w, fun b hb => hb.elim⟩, ⟨_, (Arr.foot hD jd).keep H0, fun b hb => ?_⟩, OwnC.nil _ _ _ _ _ _ _⟩
 ·show (if b = w2.heap.size then 1 else if w1.heap.size ≤ b then 6 else c b) = c b
  rw [if_neg jo, if_neg jo]
 have h1 := hn b hb.2
 have h2 := (Arr.foot hD jd).1 b hb
 show (if b = w2.heap.size then 1 else if w1.heap.size ≤ b then 6 else c b) = 6
 rw [if_neg jo, if_pos h1]
end Go.Proofs.YtgdamggkaklhjaaDoor
end
section
namespace Go.Proofs.YtgdamggkaklhjaaDoor
open Go.RowKit Go.Sort Go.Shelf BH
set_option maxHeartbeats 1000000000
set_option maxRecDepth 100000
section
variable {m : Img} {f : Fl} {w0 : World} {v0 v1 v2 v3 v4 f0 f1 f2 : Value} {xb : Nat} {vI vF vB : Value} {M : List (It × Int)} {fst beg : List Int} {c : Nat → Nat} {w : World}
theorem pairs_any (hX : Mkr m f w0 v0 v1 v2 v3 v4 f0 f1 f2 xb vI vF vB M fst beg c w) (hn : ((prs M).map (·.1)).Nodup) (hb : ∀ x ∈ prs M, 0 ≤ x.1 ∧ x.1 < 4611686018427387904) (hl : M.length ≤ 1000000000) :
  Calls Tryd.prog 15 #[.pointer (some ⟨xb, 0, none⟩)] w fun e w' => ∃ v, e = .returned v ∧ Own w' w.heap.size 71 2 cpr v (sortP (prs M)) ∧ Keeps w w' := by
 have HX := jH hX
 obtain ⟨ia, ic, rfl⟩ := own_form' hX.its.1
 obtain ⟨NI, H9⟩ := jE (M.length)
 have x9 : w.cell? ⟨xb, 9, none⟩ = some (.slice ia NI ic) := by rw [H9]; exact hX.blk.1.cell rfl
 rw [← H9] at hl
 obtain ⟨H6, HN⟩ := hid2 H9 (show _ ∧ _ from ⟨hn, hb⟩)
 clear hX hn hb H9
 go_enter Tryd.func15, Tryd.ntmps15
 go_wp2_with fail
 clear x9
 go_loopw [11, 3] (fun s11 s3 wr => ∃ (k : Nat) (a : Option Addr) (cp : Nat), k ≤ NI ∧ s11 = .int .i64 k ∧ s3 = .slice a (prs (M.take k)).length cp ∧ Hid (Own wr w.heap.size 71 2 cpr (.slice a (prs (M.take k)).length cp) (prs (M.take k))) ∧ Hid (Keeps w wr)) (fun s11 _ _ => NI - (intOf s11).toNat)
 case atStart => exact ⟨0, none, 0, Nat.zero_le _, rfl, rfl, jH (Own.nil _ _ _ _ _), jH (Keeps.refl _)⟩
 case round =>
 obtain ⟨k, a, cp, hk, rfl, rfl, HO, HK⟩ := hrel
 by_cases H5 : k < NI
 case pos =>
  have hlz : (k : Int) < (NI : Int) := by omega
  have Hg : (prs (M.take k)).length ≤ k := by unfold prs; rw [List.length_map]; refine Nat.le_trans (List.length_filter_le _ _) ?_; rw [List.length_take]; omega
  obtain ⟨g, cap, e, lg, H0, -, -, -⟩ := (HX.out.keeps HK.out).item (k := k) (by rw [← H6.out]; exact H5)
  injection e with e1 e2 e3
  subst e1
  obtain ⟨⟨⟨⟨K, D, A, B, N, Lg⟩, Bl, Fn, H2, Li⟩, At⟩, hy⟩ : ∃ y, y = nth M k := ⟨_, rfl⟩
  rw [← hy] at H0
  have H4 : prs (M.take (k + 1)) = prs (M.take k) ++ if 0 ≤ H2 then [(H2, At)] else [] := by rw [take_succ_nth M k (by rw [← H6.out]; exact H5), prs_snoc, ← hy]
  have r0 := jc wr g (k * 11) K (H0 0 _ jd rfl)
  have r1 := jc wr g (k * 11 + 1) D (H0 1 _ jd rfl)
  have r2 := jc wr g (k * 11 + 2) A (H0 2 _ jd rfl)
  have r3 := jc wr g (k * 11 + 3) B (H0 3 _ jd rfl)
  have r4 := jc wr g (k * 11 + 4) N (H0 4 _ jd rfl)
  have r5 := jv wr g (k * 11 + 5) (.bool Lg) (H0 5 _ jd rfl)
  have r6 := jc wr g (k * 11 + 6) Bl (H0 6 _ jd rfl)
  have r7 := jc wr g (k * 11 + 7) Fn (H0 7 _ jd rfl)
  have r8 := jc wr g (k * 11 + 8) H2 (H0 8 _ jd rfl)
  have r9 := jc wr g (k * 11 + 9) Li (H0 9 _ jd rfl)
  have r10 := jc wr g (k * 11 + 10) At (H0 10 _ jd rfl)
  have Ha := jH H5
  obtain ⟨PL, Hb⟩ := jE (prs (M.take k))
  rw [← Hb] at HO H4 Hg ⊢
  obtain ⟨PN, Hc⟩ := jE (PL.length)
  rw [← Hc] at HO Hg ⊢
  obtain ⟨H7, HPL, Hi⟩ := hid3 Hc Hb HK.out.size
  clear H0 hy e2 e3 Hc Hb
  by_cases hO : 0 ≤ H2
  case pos =>
   rw [if_pos hO] at H4
   obtain ⟨H8, Hd⟩ := hid2 H4 (show (PL ++ [(H2, At)]).length = PN + 1 by rw [List.length_append, List.length_singleton, H7.out])
   have t1 : decide (0 ≤ H2) = true := decide_eq_true hO
   clear H4 hO
   go_wp2_with (at_builtin; refine wpList_pushes jr (.tmp 18) (.tmp 24) 31 jr Tryd.underlying31 info_pair jr jd (base := w.heap.size) (f := cpr) (l := PL) jr (by exact HO.out.keep ku5) [(H2, At)] _ _ jr jt cpr_len cpr_one (by simp only [jL, ← H7.out]; omega) (by simp only [jL, ← H7.out]; unfold maxLen; omega) (by have := Hi.out; first | omega | (simp only [sz_alloc, sz_drew]; omega)) ?_; intro v7 w7 H1 H3 He Hf; obtain ⟨Hj, Hk, e7⟩ := own_form' H1; rw [Hd.out] at e7; subst e7; have Hl := jH H1; have Hm := jH (Keeps.trans' (HK.out.trans ku5) H3 (Nat.le_refl _)); clear H1 H3 He Hf)
   go_roundw
   case rel => exact ⟨k + 1, Hj, Hk, Ha.out, by go_num, by rw [H8.out, Hd.out], by rw [H8.out, Hd.out]; exact Hl, Hm⟩
   case measure => have H5 := Ha.out; simp [intOf]; omega
  case neg =>
  rw [if_neg hO, List.append_nil] at H4
  have H8 := jH H4
  have t1 : decide (0 ≤ H2) = false := decide_eq_false hO
  clear H4 hO
  go_wp2_with fail
  go_roundw
  case rel => exact ⟨k + 1, a, cp, Ha.out, by go_num, by rw [H8.out, ← H7.out], by rw [H8.out, ← H7.out]; exact jH (HO.out.keep ((Keeps.refl _).alloc _)), jH (HK.out.alloc _)⟩
  case measure => have H5 := Ha.out; simp [intOf]; omega
 case neg =>
 obtain rfl : k = NI := by omega
 have hO := HO.out
 rw [H6.out, List.take_length] at hO
 have Hh := sortPr_any HN.out.1 HN.out.2 hO (Nat.lt_of_le_of_lt (show (prs M).length ≤ 1000000000 by unfold prs; rw [List.length_map]; exact Nat.le_trans (List.length_filter_le _ _) (by rw [← H6.out]; exact hl)) jd)
 have e1 : M.take k = M := by rw [H6.out, List.take_length]
 rw [e1]
 obtain ⟨Hn, HR⟩ := hid2 Hh (fun b => hO.row b)
 clear hO Hh e1 H5 hk
 go_wp2_with (go_at_call 35; refine Hn.out.mono ?_; rintro e wb ⟨rfl, ho, hg⟩; have Ho := jH ho; have Hp := jH (HK.out.trans' (below_grown hg HK.out.size (fun b q => HR.out b q)) (Nat.le_refl _)); clear ho hg)
 go_ret
 exact ⟨_, rfl, Ho.out, Hp.out⟩
end
end Go.Proofs.YtgdamggkaklhjaaDoor
end
